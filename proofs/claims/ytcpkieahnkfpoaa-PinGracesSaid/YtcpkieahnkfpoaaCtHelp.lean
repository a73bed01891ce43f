/- What a help takes of words: plain functions. -/
import Derived.Test.YtcpkieahnkfpoaaCtBits
namespace Go.Proofs.Ytcpkieahnkfpoaa.Ct
open Go Go.Proofs Go.Proofs.Ytcpkieahnkfpoaa.Ev
open Go.RowKit

/-- A status's word as committed, as the program lays it. -/
def mvB (w : Int) (b : Bool) : Int := u64 ((BitVec.ofInt 64 (u64 ((BitVec.ofInt 64 (u64 ((BitVec.ofInt 64 w &&& ~~~BitVec.ofInt 64 1006632960).toNat : Int)) ||| BitVec.ofInt 64 (if b then 67108864 else 0)).toNat : Int)) ||| BitVec.ofInt 64 536870912).toNat : Int)
open Dec in
theorem mv_C (w : Int) (b : Bool) : CallC Try.prog 111 [.int .u64 w, .int .i64 4, .bool b] ⟨[], 0, []⟩ (.int .u64 (mvB w b)) ⟨[], 0, []⟩ := by
  cases b
  · exact path E19ok 12 (ds := [Dec.l]) (pc := [(0 : Int) ≤ 26, (0 : Int) ≤ 27]) (by kernel_rfl) (by simp) rfl
  · exact path E19ok 12 (ds := [Dec.l]) (pc := [(0 : Int) ≤ 26, (0 : Int) ≤ 27]) (by kernel_rfl) (by simp) rfl
def gMv (args : List Value) (hp : Hp) : Option (Value × Hp × List Prop) :=
  match args with
  | [.int .u64 w, .int .i64 4, .bool b] => some (.int .u64 (mvB w b), hp, [])
  | _ => none
theorem gMv_ok : ∀ args hp v hp' pc, gMv args hp = some (v, hp', pc) → ∀ ds, CallOk Try.prog 111 args hp ⟨v, hp', ds, pc⟩ := by
  intro args hp v hp' pc hg ds
  unfold gMv at hg
  split at hg
  · rename_i w b
    simp only [Option.some.injEq, Prod.mk.injEq] at hg
    obtain ⟨rfl, rfl, rfl⟩ := hg
    exact CallC.pure (enters (fn := Try.f111) (by kernel_rfl) (by kernel_rfl) rfl) (fun _ => mv_C w b) rfl rfl hp ds
  · cases hg
theorem un03_path (w : Int) : callR E19 8 72 [.int .u64 w] ⟨[], 0, []⟩ [] [] = some (.agg ⟨[.int .u64 (u64 (Int.tdiv w 16)), .int .i64 (w64 (w64 (Int.tmod w 16) - 1))]⟩, ⟨[], 0, []⟩, [(16 : Int) ≠ 0, (16 : Int) ≠ 0]) := by kernel_rfl
theorem un03_C {w : Int} (h0 : 0 ≤ w) (h1 : w ≤ 18446744073709551615) : CallC Try.prog 72 [.int .u64 w] ⟨[], 0, []⟩ (.agg ⟨[.int .u64 (w / 16), .int .i64 (pendB w)]⟩) ⟨[], 0, []⟩ := by
  have h := path E19ok 8 (un03_path w) (by simp) rfl
  rw [tdiv_nn h0, w_u64 (n := w / 16) (by omega) (by omega), Int.tmod_eq_emod_of_nonneg h0, w64_in (n := w % 16) (by omega) (by omega), w64_in (n := w % 16 - 1) (by omega) (by omega), ← pendB_eq h0 h1] at h
  exact h
def gUn3 (args : List Value) (hp : Hp) : Option (Value × Hp × List Prop) :=
  match args with
  | [.int .u64 w] => some (.agg ⟨[.int .u64 (w / 16), .int .i64 (pendB w)]⟩, hp, [0 ≤ w ∧ w ≤ 18446744073709551615])
  | _ => none
theorem gUn3_ok : ∀ args hp v hp' pc, gUn3 args hp = some (v, hp', pc) → ∀ ds, CallOk Try.prog 72 args hp ⟨v, hp', ds, pc⟩ := by
  intro args hp v hp' pc hg ds
  unfold gUn3 at hg
  split at hg
  · rename_i w
    simp only [Option.some.injEq, Prod.mk.injEq] at hg
    obtain ⟨rfl, rfl, rfl⟩ := hg
    exact CallC.pure (enters (fn := Try.f72) (by kernel_rfl) (by kernel_rfl) rfl) (fun h => un03_C (hd1 h).1 (hd1 h).2) rfl rfl hp ds
  · cases hg
/-- The state, and whether one is busy, of a status's word, as the program takes them. -/
def stB (w : Int) : Int := w64 (u64 ((BitVec.ofInt 64 (Int.fdiv w 134217728) &&& BitVec.ofInt 64 7).toNat : Int))
def bsB (w : Int) : Bool := w64 (u64 ((BitVec.ofInt 64 (Int.fdiv w 67108864) &&& BitVec.ofInt 64 1).toNat : Int)) == 1
def seqB (w : Int) : Int := Int.fdiv w 16
def setB (w : Int) : Int := u64 (Int.fdiv w 16 * 16)
def bitB (w d m : Int) : Int := w64 (u64 ((BitVec.ofInt 64 (Int.fdiv w d) &&& BitVec.ofInt 64 m).toNat : Int))
def unB (w : Int) : Value := .agg ⟨[.int .i64 (bitB w 1073741824 4294967295), .int .i64 (stB w), .bool (bsB w), .bool (bitB w 33554432 1 == 1), .bool (bitB w 16777216 1 == 1), .int .i64 (bitB w 4096 4095), .int .i64 (bitB w 1 4095)]⟩
def utB (w : Int) : Value := .agg ⟨[.int .u64 (seqB w), .int .i64 (pendB w)]⟩
def gUnS (args : List Value) (hp : Hp) : Option (Value × Hp × List Prop) :=
  match args with
  | [.int .u64 w] => some (unB w, hp, [])
  | _ => none
theorem gUnS_ok : ∀ args hp v hp' pc, gUnS args hp = some (v, hp', pc) → ∀ ds, CallOk Try.prog 106 args hp ⟨v, hp', ds, pc⟩ := by
  intro args hp v hp' pc hg ds
  unfold gUnS at hg
  split at hg
  · rename_i w
    simp only [Option.some.injEq, Prod.mk.injEq] at hg
    obtain ⟨rfl, rfl, rfl⟩ := hg
    exact CallC.pure (enters (fn := Try.f106) (by kernel_rfl) (by kernel_rfl) rfl) (fun _ => path E19ok 12 (ds := List.replicate 12 Dec.l) (pc := [(0 : Int) ≤ 30, (0 : Int) ≤ 32, (0 : Int) ≤ 27, (0 : Int) ≤ 3, (0 : Int) ≤ 26, (0 : Int) ≤ 1, (0 : Int) ≤ 25, (0 : Int) ≤ 1, (0 : Int) ≤ 24, (0 : Int) ≤ 1, (0 : Int) ≤ 12, (0 : Int) ≤ 12, (0 : Int) ≤ 0, (0 : Int) ≤ 12]) (by kernel_rfl) (by simp) rfl) rfl rfl hp ds
  · cases hg
def gUt (args : List Value) (hp : Hp) : Option (Value × Hp × List Prop) :=
  match args with
  | [.int .u64 w] => some (utB w, hp, [])
  | _ => none
theorem gUt_ok : ∀ args hp v hp' pc, gUt args hp = some (v, hp', pc) → ∀ ds, CallOk Try.prog 91 args hp ⟨v, hp', ds, pc⟩ := by
  intro args hp v hp' pc hg ds
  unfold gUt at hg
  split at hg
  · rename_i w
    simp only [Option.some.injEq, Prod.mk.injEq] at hg
    obtain ⟨rfl, rfl, rfl⟩ := hg
    exact CallC.pure (enters (fn := Try.f91) (by kernel_rfl) (by kernel_rfl) rfl) (fun _ => path E19ok 12 (ds := List.replicate 12 Dec.l) (pc := [(0 : Int) ≤ 4]) (by kernel_rfl) (by simp) rfl) rfl rfl hp ds
  · cases hg
def gSt2 (args : List Value) (hp : Hp) : Option (Value × Hp × List Prop) :=
  match args with
  | [.int .u64 w] => some (.int .u64 (setB w), hp, [])
  | _ => none
theorem gSt2_ok : ∀ args hp v hp' pc, gSt2 args hp = some (v, hp', pc) → ∀ ds, CallOk Try.prog 108 args hp ⟨v, hp', ds, pc⟩ := by
  intro args hp v hp' pc hg ds
  unfold gSt2 at hg
  split at hg
  · rename_i w
    simp only [Option.some.injEq, Prod.mk.injEq] at hg
    obtain ⟨rfl, rfl, rfl⟩ := hg
    exact CallC.pure (enters (fn := Try.f108) (by kernel_rfl) (by kernel_rfl) rfl) (fun _ => path E19ok 12 (ds := List.replicate 12 Dec.l) (pc := [(0 : Int) ≤ 4, (0 : Int) ≤ 4]) (by kernel_rfl) (by simp) rfl) rfl rfl hp ds
  · cases hg
noncomputable def E22 : Env := ((((E19.add 111 gMv).add 72 gUn3).add 106 gUnS).add 91 gUt).add 108 gSt2
theorem E22ok : EnvOk E22 := ((((E19ok.add gMv_ok).add gUn3_ok).add gUnS_ok).add gUt_ok).add gSt2_ok
noncomputable def E23 : Env := E22.add 22 gOfW
theorem E23ok : EnvOk E23 := E22ok.add gOfW_ok
noncomputable def E24 : Env := E22.add 38 gNw
theorem E24ok : EnvOk E24 := E22ok.add gNw_ok
end Go.Proofs.Ytcpkieahnkfpoaa.Ct
