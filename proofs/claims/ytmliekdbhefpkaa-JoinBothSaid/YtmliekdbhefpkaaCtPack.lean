/- The document's word of a status's parts, as a contract. -/
import Derived.Test.YtmliekdbhefpkaaCtPlain2
namespace Go.Proofs.Ytmliekdbhefpkaa.Ct
open Go Go.Proofs Go.Proofs.Ytmliekdbhefpkaa.Ev
open Go.RowKit

structure Ps where
  gen : Int
  st : Int
  bz : Bool
  ip : Bool
  op : Bool
  inn : Int
  out : Int
def Ps.cs (p : Ps) : List Value := [.int .i64 p.gen, .int .i64 p.st, .bool p.bz, .bool p.ip, .bool p.op, .int .i64 p.inn, .int .i64 p.out]
def Ps.v (p : Ps) : Value := .agg ⟨p.cs⟩
def pkOk (p : Ps) : Bool := !(decide (p.out < 0) || decide (p.out > 4095) || decide (p.inn < 0) || decide (p.inn > 4095) || decide (p.st < 0) || decide (p.st > 7) || decide (p.gen < 0) || decide (p.gen > 1073741824))
def pkB (p : Ps) : Int := p.out + 4096 * p.inn + 134217728 * p.st + 1073741824 * p.gen
def pkI (p : Ps) : Int := putI (putI (putI (pkB p) 24 p.op) 25 p.ip) 26 p.bz
def pkW (p : Ps) : Int := if pkOk p = true then pkI p else 0
def pkV (p : Ps) : Value := .tuple ⟨[.int .u64 (pkW p), .bool (pkOk p)]⟩
abbrev packF : FuncId := 24
def pkA (p : Ps) : Int := u64 (u64 (u64 (u64 p.out + u64 (4096 * u64 p.inn)) + u64 (134217728 * u64 p.st)) + u64 (1073741824 * u64 p.gen))
structure PkR (p : Ps) : Prop where
  o0 : 0 ≤ p.out
  o1 : p.out ≤ 4095
  i0 : 0 ≤ p.inn
  i1 : p.inn ≤ 4095
  s0 : 0 ≤ p.st
  s1 : p.st ≤ 7
  g0 : 0 ≤ p.gen
  g1 : p.gen ≤ 1073741824
theorem pkOk_iff {p : Ps} : pkOk p = true ↔ PkR p := by
  unfold pkOk
  simp only [Bool.not_eq_true', Bool.or_eq_false_iff, decide_eq_false_iff_not]
  constructor
  · rintro ⟨⟨⟨⟨⟨⟨⟨a, b⟩, c⟩, d⟩, e⟩, f⟩, g⟩, h⟩
    exact ⟨by omega, by omega, by omega, by omega, by omega, by omega, by omega, by omega⟩
  · rintro ⟨a, b, c, d, e, f, g, h⟩
    refine ⟨⟨⟨⟨⟨⟨⟨?_, ?_⟩, ?_⟩, ?_⟩, ?_⟩, ?_⟩, ?_⟩, ?_⟩ <;> omega
theorem pkA_eq {p : Ps} (h : PkR p) : pkA p = pkB p := by
  obtain ⟨a, b, c, d, e, f, g, i⟩ := h
  unfold pkA pkB
  rw [w_u64 (n := p.out) a (by omega), w_u64 (n := p.inn) c (by omega), w_u64 (n := p.st) e (by omega), w_u64 (n := p.gen) g (by omega), w_u64 (n := 4096 * p.inn) (by omega) (by omega), w_u64 (n := p.out + 4096 * p.inn) (by omega) (by omega), w_u64 (n := 134217728 * p.st) (by omega) (by omega), w_u64 (n := p.out + 4096 * p.inn + 134217728 * p.st) (by omega) (by omega), w_u64 (n := 1073741824 * p.gen) (by omega) (by omega), w_u64 (by omega) (by omega)]
theorem pkB_rng {p : Ps} (h : PkR p) : Wd (pkB p) := by
  obtain ⟨a, b, c, d, e, f, g, i⟩ := h
  unfold pkB
  constructor <;> omega
theorem pk_rng {p : Ps} (h : PkR p) : Wd (putI (pkB p) 24 p.op) ∧ Wd (putI (putI (pkB p) 24 p.op) 25 p.ip) ∧ Wd (pkI p) := by
  have h0 := pkB_rng h
  have h1 := putI_rng h0 (n := 24) (by omega) p.op
  have h2 := putI_rng h1 (n := 25) (by omega) p.ip
  exact ⟨h1, h2, putI_rng h2 (n := 26) (by omega) p.bz⟩
open Dec in
section
variable (p : Ps)
theorem pk_ok : callR E45 20 packF [p.v] ⟨[], 0, []⟩ [f, f, f, f, f, f, f, f] [] = some (.tuple ⟨[.int .u64 (putI (putI (putI (pkA p) 24 p.op) 25 p.ip) 26 p.bz), .bool true]⟩, ⟨[], 0, []⟩,
    [decide (p.out < 0) = false, decide (p.out > 4095) = false, decide (p.inn < 0) = false, decide (p.inn > 4095) = false, decide (p.st < 0) = false, decide (p.st > 7) = false, decide (p.gen < 0) = false, decide (p.gen > 1073741824) = false, (27 : Int) ≤ 63, (30 : Int) ≤ 63, Wd (pkA p) ∧ (24 : Int) ≤ 63, Wd (putI (pkA p) 24 p.op) ∧ (25 : Int) ≤ 63, Wd (putI (putI (pkA p) 24 p.op) 25 p.ip) ∧ (26 : Int) ≤ 63]) := by kernel_rfl
theorem pk_0 : callR E45 20 packF [p.v] ⟨[], 0, []⟩ (t :: List.replicate 8 Dec.l) [] = some (.tuple ⟨[.int .u64 0, .bool false]⟩, ⟨[], 0, []⟩, [decide (p.out < 0) = true]) := by kernel_rfl
theorem pk_1 : callR E45 20 packF [p.v] ⟨[], 0, []⟩ (f :: t :: List.replicate 8 Dec.l) [] = some (.tuple ⟨[.int .u64 0, .bool false]⟩, ⟨[], 0, []⟩, [decide (p.out < 0) = false, decide (p.out > 4095) = true]) := by kernel_rfl
theorem pk_2 : callR E45 20 packF [p.v] ⟨[], 0, []⟩ (f :: f :: t :: List.replicate 8 Dec.l) [] = some (.tuple ⟨[.int .u64 0, .bool false]⟩, ⟨[], 0, []⟩, [decide (p.out < 0) = false, decide (p.out > 4095) = false, decide (p.inn < 0) = true]) := by kernel_rfl
theorem pk_3 : callR E45 20 packF [p.v] ⟨[], 0, []⟩ (f :: f :: f :: t :: List.replicate 8 Dec.l) [] = some (.tuple ⟨[.int .u64 0, .bool false]⟩, ⟨[], 0, []⟩, [decide (p.out < 0) = false, decide (p.out > 4095) = false, decide (p.inn < 0) = false, decide (p.inn > 4095) = true]) := by kernel_rfl
theorem pk_4 : callR E45 20 packF [p.v] ⟨[], 0, []⟩ (f :: f :: f :: f :: t :: List.replicate 8 Dec.l) [] = some (.tuple ⟨[.int .u64 0, .bool false]⟩, ⟨[], 0, []⟩, [decide (p.out < 0) = false, decide (p.out > 4095) = false, decide (p.inn < 0) = false, decide (p.inn > 4095) = false, decide (p.st < 0) = true]) := by kernel_rfl
theorem pk_5 : callR E45 20 packF [p.v] ⟨[], 0, []⟩ (f :: f :: f :: f :: f :: t :: List.replicate 8 Dec.l) [] = some (.tuple ⟨[.int .u64 0, .bool false]⟩, ⟨[], 0, []⟩, [decide (p.out < 0) = false, decide (p.out > 4095) = false, decide (p.inn < 0) = false, decide (p.inn > 4095) = false, decide (p.st < 0) = false, decide (p.st > 7) = true]) := by kernel_rfl
theorem pk_6 : callR E45 20 packF [p.v] ⟨[], 0, []⟩ (f :: f :: f :: f :: f :: f :: t :: List.replicate 8 Dec.l) [] = some (.tuple ⟨[.int .u64 0, .bool false]⟩, ⟨[], 0, []⟩, [decide (p.out < 0) = false, decide (p.out > 4095) = false, decide (p.inn < 0) = false, decide (p.inn > 4095) = false, decide (p.st < 0) = false, decide (p.st > 7) = false, decide (p.gen < 0) = true]) := by kernel_rfl
theorem pk_7 : callR E45 20 packF [p.v] ⟨[], 0, []⟩ (f :: f :: f :: f :: f :: f :: f :: t :: List.replicate 8 Dec.l) [] = some (.tuple ⟨[.int .u64 0, .bool false]⟩, ⟨[], 0, []⟩, [decide (p.out < 0) = false, decide (p.out > 4095) = false, decide (p.inn < 0) = false, decide (p.inn > 4095) = false, decide (p.st < 0) = false, decide (p.st > 7) = false, decide (p.gen < 0) = false, decide (p.gen > 1073741824) = true]) := by kernel_rfl
end
theorem pack_C (p : Ps) : CallC Try.prog packF [p.v] ⟨[], 0, []⟩ (pkV p) ⟨[], 0, []⟩ := by
  by_cases hk : pkOk p = true
  · have h := pkOk_iff.1 hk
    have e := pk_ok p
    rw [pkA_eq h] at e
    have r := pk_rng h
    obtain ⟨a, b, c, d, e', f, g, i⟩ := h
    have hv : pkV p = .tuple ⟨[.int .u64 (putI (putI (putI (pkB p) 24 p.op) 25 p.ip) 26 p.bz), .bool true]⟩ := by
      unfold pkV pkW
      rw [if_pos hk, hk]
      rfl
    rw [hv]
    exact CallC.of_call E45ok e (pcs_of ⟨decide_eq_false (by omega), decide_eq_false (by omega), decide_eq_false (by omega), decide_eq_false (by omega), decide_eq_false (by omega), decide_eq_false (by omega), decide_eq_false (by omega), decide_eq_false (by omega), by omega, by omega, ⟨pkB_rng (pkOk_iff.1 hk), by omega⟩, ⟨r.1, by omega⟩, ⟨r.2.1, by omega⟩, trivial⟩) rfl (z0 _)
  · have hv : pkV p = .tuple ⟨[.int .u64 0, .bool false]⟩ := by
      unfold pkV pkW
      rw [if_neg hk, eq_false_of_ne_true hk]
    rw [hv]
    by_cases h0 : p.out < 0
    · exact CallC.of_call E45ok (pk_0 p) (pcs_of ⟨decide_eq_true h0, trivial⟩) rfl (z0 _)
    by_cases h1 : p.out > 4095
    · exact CallC.of_call E45ok (pk_1 p) (pcs_of ⟨decide_eq_false h0, decide_eq_true h1, trivial⟩) rfl (z0 _)
    by_cases h2 : p.inn < 0
    · exact CallC.of_call E45ok (pk_2 p) (pcs_of ⟨decide_eq_false h0, decide_eq_false h1, decide_eq_true h2, trivial⟩) rfl (z0 _)
    by_cases h3 : p.inn > 4095
    · exact CallC.of_call E45ok (pk_3 p) (pcs_of ⟨decide_eq_false h0, decide_eq_false h1, decide_eq_false h2, decide_eq_true h3, trivial⟩) rfl (z0 _)
    by_cases h4 : p.st < 0
    · exact CallC.of_call E45ok (pk_4 p) (pcs_of ⟨decide_eq_false h0, decide_eq_false h1, decide_eq_false h2, decide_eq_false h3, decide_eq_true h4, trivial⟩) rfl (z0 _)
    by_cases h5 : p.st > 7
    · exact CallC.of_call E45ok (pk_5 p) (pcs_of ⟨decide_eq_false h0, decide_eq_false h1, decide_eq_false h2, decide_eq_false h3, decide_eq_false h4, decide_eq_true h5, trivial⟩) rfl (z0 _)
    by_cases h6 : p.gen < 0
    · exact CallC.of_call E45ok (pk_6 p) (pcs_of ⟨decide_eq_false h0, decide_eq_false h1, decide_eq_false h2, decide_eq_false h3, decide_eq_false h4, decide_eq_false h5, decide_eq_true h6, trivial⟩) rfl (z0 _)
    by_cases h7 : p.gen > 1073741824
    · exact CallC.of_call E45ok (pk_7 p) (pcs_of ⟨decide_eq_false h0, decide_eq_false h1, decide_eq_false h2, decide_eq_false h3, decide_eq_false h4, decide_eq_false h5, decide_eq_false h6, decide_eq_true h7, trivial⟩) rfl (z0 _)
    exact absurd (pkOk_iff.2 ⟨by omega, by omega, by omega, by omega, by omega, by omega, by omega, by omega⟩) hk
def psOf : List Value → Option Ps
  | [.int .i64 a, .int .i64 b, .bool c, .bool d, .bool e, .int .i64 g, .int .i64 h] => some ⟨a, b, c, d, e, g, h⟩
  | _ => none
theorem psOf_some {l : List Value} {p : Ps} (h : psOf l = some p) : l = p.cs := by
  unfold psOf at h
  split at h
  · cases h; rfl
  · cases h
def gPack (args : List Value) (hp : Hp) : Option (Value × Hp × List Prop) :=
  match args with
  | [.agg ⟨l⟩] => match psOf l with
    | some p => some (pkV p, hp, [])
    | none => none
  | _ => none
theorem gPack_ok : ∀ args hp v hp' pc, gPack args hp = some (v, hp', pc) → ∀ ds, CallOk Try.prog packF args hp ⟨v, hp', ds, pc⟩ := by
  intro args hp v hp' pc hg ds
  unfold gPack at hg
  split at hg
  · split at hg
    · rename_i l p hq
      simp only [Option.some.injEq, Prod.mk.injEq] at hg
      obtain ⟨rfl, rfl, rfl⟩ := hg
      rw [psOf_some hq]
      exact CallC.pure (enters (fn := Try.f24) (by kernel_rfl) (by kernel_rfl) rfl) (fun _ => pack_C p) rfl rfl hp ds
    · cases hg
  · cases hg
end Go.Proofs.Ytmliekdbhefpkaa.Ct
