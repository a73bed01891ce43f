/- Tickets that are made: the program's, and the document's. -/
import Derived.Test.YtjkohcdgjlaobaaCtStat
namespace Go.Proofs.Ytjkohcdgjlaobaa.Ct
open Go Go.Proofs Go.Proofs.Ytjkohcdgjlaobaa.Ev
open Go.RowKit

/-- One more type is compared cell by cell. -/
def _root_.Go.Proofs.Ytjkohcdgjlaobaa.Ev.Env.addEq (E : Env) (t : TypeId) (ks : List CK) : Env := ⟨E.P, E.orc, fun t' => bif Nat.beq t' t then some ks else E.eqs t'⟩
theorem _root_.Go.Proofs.Ytjkohcdgjlaobaa.Ev.EnvOk.addEq {E : Env} (hE : EnvOk E) {t : TypeId} {ks : List CK} (h : ∀ xs ys bs, eqC ks xs ys = some bs → ∀ (x y : Operand) (w : World),
  (eqGuard .eql t x y (.agg ⟨xs⟩) (.agg ⟨ys⟩)).run E.P w = .ok () w ∧ (eqGuard .neq t x y (.agg ⟨xs⟩) (.agg ⟨ys⟩)).run E.P w = .ok () w ∧
  (binOp .eql t (.agg ⟨xs⟩) (.agg ⟨ys⟩)).run E.P w = .ok (.bool (andL bs)) w ∧ (binOp .neq t (.agg ⟨xs⟩) (.agg ⟨ys⟩)).run E.P w = .ok (.bool (!(andL bs))) w) : EnvOk (E.addEq t ks) :=
  ⟨hE.mixed, fun t' ks' ht => by
    simp only [Env.addEq] at ht
    cases hn : Nat.beq t' t
    · simp only [hn, cond_false] at ht
      exact hE.eqs t' ks' ht
    · simp only [hn, cond_true, Option.some.injEq] at ht
      obtain rfl := beq_nat hn
      subst ht
      exact h, hE.orc⟩
theorem eq_struct {t : TypeId} {ks : List CK} {E : Env} (h : flat ⟨E.P, E.orc, fun t' => bif Nat.beq t' t then some ks else none⟩ 8 t = some (true, ks)) (hg : E.P.eqGuardType E.P.depth t = false) : ∀ xs ys bs, eqC ks xs ys = some bs → ∀ (x y : Operand) (w : World),
  (eqGuard .eql t x y (.agg ⟨xs⟩) (.agg ⟨ys⟩)).run E.P w = .ok () w ∧ (eqGuard .neq t x y (.agg ⟨xs⟩) (.agg ⟨ys⟩)).run E.P w = .ok () w ∧
  (binOp .eql t (.agg ⟨xs⟩) (.agg ⟨ys⟩)).run E.P w = .ok (.bool (andL bs)) w ∧ (binOp .neq t (.agg ⟨xs⟩) (.agg ⟨ys⟩)).run E.P w = .ok (.bool (!(andL bs))) w :=
  eqsOk_of (E := ⟨E.P, E.orc, fun t' => bif Nat.beq t' t then some ks else none⟩) (fun t' ks' ht => by
    simp only at ht
    cases hn : Nat.beq t' t
    · simp [hn] at ht
    · simp only [hn, cond_true, Option.some.injEq] at ht
      obtain rfl := beq_nat hn
      subst ht
      exact ⟨h, hg⟩) t ks (by simp)
theorem run_equal_two {P : Program} {t e : TypeId} {k : IntKind} {i : TypeInfo} (ht : P.underlying t = some (.array 2 e)) (he : P.underlying e = some (.int k)) (hi : P.info? e = some i) (hz : i.size = 1) (a b c d : Int) (n : Nat) (w : World) :
    (Op.equalIn (n + 2) t (.agg ⟨[.int k a, .int k b]⟩) (.agg ⟨[.int k c, .int k d]⟩)).run P w = .ok (a == c && b == d) w := by
  have hag : (isAgg e).run P w = .ok false w := by simp [isAgg, run_underlying he]
  have p : ∀ (x y : Int) (j : Nat), j < 2 → (part e ⟨[.int k x, .int k y]⟩ j).run P w = .ok (.int k (if j = 0 then x else y)) w := fun x y j hj => by
    match j, hj with
    | 0, _ => simp [part, hag]
    | 1, _ => simp [part, hag]
  have q := run_equalIn_int (P := P) w n e k k
  have z : (sizeOf e).run P w = .ok 1 w := by rw [run_size (E := ⟨P, fun _ _ _ => none, fun _ => none⟩) hi w, hz]
  have r2 : List.range' 0 2 = [0, 1] := rfl
  rw [Op.equalIn]
  cases hac : a == c <;> cases hbd : b == d <;> simp [run_underlying ht, z, p, q, he, r2, hac, hbd]
theorem eqC_i {k : IntKind} {ks : List CK} {xs ys : List Value} {bs : List Bool} (h : eqC (.i k :: ks) xs ys = some bs) : ∃ a b xs' ys' bs', xs = .int k a :: xs' ∧ ys = .int k b :: ys' ∧ bs = (a == b) :: bs' ∧ eqC ks xs' ys' = some bs' := by
  cases xs with
  | nil => simp [eqC] at h
  | cons x xs' =>
    cases ys with
    | nil => cases x <;> simp [eqC] at h
    | cons y ys' =>
      cases x <;> cases y <;> simp only [eqC, reduceCtorEq] at h
      rename_i k1 x k2 y
      split at h
      · rename_i e1
        split at h
        · rename_i e2
          subst e1
          subst e2
          cases hr : eqC ks xs' ys' with
          | none => simp [hr] at h
          | some b' =>
            simp only [hr, Option.map_some, Option.some.injEq] at h
            exact ⟨x, y, xs', ys', b', rfl, rfl, h.symm, hr⟩
        · cases h
      · cases h
theorem eqC_nil {xs ys : List Value} {bs : List Bool} (h : eqC [] xs ys = some bs) : xs = [] ∧ ys = [] ∧ bs = [] := by
  cases xs with
  | nil =>
    cases ys with
    | nil =>
      simp only [eqC, Option.some.injEq] at h
      exact ⟨rfl, rfl, h.symm⟩
    | cons _ _ => simp [eqC] at h
  | cons _ _ => simp [eqC] at h
abbrev arr2 : TypeId := 145
theorem eq_two : ∀ xs ys bs, eqC [.i .i64, .i .i64] xs ys = some bs → ∀ (x y : Operand) (w : World),
  (eqGuard .eql arr2 x y (.agg ⟨xs⟩) (.agg ⟨ys⟩)).run Try.prog w = .ok () w ∧ (eqGuard .neq arr2 x y (.agg ⟨xs⟩) (.agg ⟨ys⟩)).run Try.prog w = .ok () w ∧
  (binOp .eql arr2 (.agg ⟨xs⟩) (.agg ⟨ys⟩)).run Try.prog w = .ok (.bool (andL bs)) w ∧ (binOp .neq arr2 (.agg ⟨xs⟩) (.agg ⟨ys⟩)).run Try.prog w = .ok (.bool (!(andL bs))) w := by
  intro xs ys bs hb x y w
  have h2 : Try.prog.eqGuardType Try.prog.depth arr2 = false := by kernel_rfl
  have hs : ∃ a b c d, xs = [.int .i64 a, .int .i64 b] ∧ ys = [.int .i64 c, .int .i64 d] ∧ bs = [a == c, b == d] := by
    obtain ⟨a, c, xs', ys', bs', rfl, rfl, rfl, h1⟩ := eqC_i hb
    obtain ⟨b, d, xs'', ys'', bs'', rfl, rfl, rfl, h2⟩ := eqC_i h1
    obtain ⟨rfl, rfl, rfl⟩ := eqC_nil h2
    exact ⟨a, b, c, d, rfl, rfl, rfl⟩
  obtain ⟨a, b, c, d, rfl, rfl, rfl⟩ := hs
  have hm : (Try.prog.info? 3).map (·.size) = some 1 := by kernel_rfl
  obtain ⟨i, hi, hz⟩ : ∃ i, Try.prog.info? 3 = some i ∧ i.size = 1 := by
    cases hq : Try.prog.info? 3 with
    | none => rw [hq] at hm; cases hm
    | some i =>
      rw [hq] at hm
      exact ⟨i, rfl, Option.some.inj hm⟩
  have he := run_equal_two (P := Try.prog) (t := arr2) (e := 3) (k := .i64) Try.underlying145 Try.underlying3 hi hz a b c d 9998 w
  refine ⟨run_eqGuard_agg w .eql arr2 x y ⟨_⟩ ⟨_⟩ h2, run_eqGuard_agg w .neq arr2 x y ⟨_⟩ ⟨_⟩ h2, ?_, ?_⟩
  · rw [run_eql_struct, he]
    rfl
  · rw [run_neq_struct, he]
    rfl
/-! A ticket is made -/
def mkOk (s g : Int) : Bool := decide (0 ≤ s) && decide (s ≤ 11) && (decide (0 ≤ g) && decide (g ≤ 1073741823))
def mkT (s g : Int) : Int := if mkOk s g = true then 16 * g + s + 1 else 0
def mkV' (s g : Int) : Value := .tuple ⟨[.int .u64 (mkT s g), .bool (mkOk s g)]⟩
noncomputable def E45t : Env := E45.addEq arr2 [.i .i64, .i .i64]
theorem E45tok : EnvOk E45t := E45ok.addEq eq_two
def clI (x hi : Int) : Int := let y := if hi < x then hi else x; if y > 0 then y else 0
def mkW (s g : Int) : Int := u64 ((BitVec.ofInt 64 (u64 (w64 (s + 1))) ||| BitVec.ofInt 64 (u64 (u64 g * 16))).toNat : Int)
open Dec in
section
variable (s g : Int)
theorem mk_no : callR E45t 12 89 [.int .i64 s, .int .i64 g] ⟨[], 0, []⟩ [t, Dec.l] [] = some (.tuple ⟨[.int .u64 0, .bool false]⟩, ⟨[], 0, []⟩, [(!((clI s 11 == s) && (clI g 1073741823 == g))) = true]) := by kernel_rfl
theorem mk_yes : callR E45t 12 89 [.int .i64 s, .int .i64 g] ⟨[], 0, []⟩ [f] [] = some (.tuple ⟨[.int .u64 (mkW s g), .bool true]⟩, ⟨[], 0, []⟩, [(!((clI s 11 == s) && (clI g 1073741823 == g))) = false, (0 : Int) ≤ 0, (0 : Int) < 2, (0 : Int) < 2, (0 : Int) ≤ 0, (0 : Int) ≤ 4]) := by kernel_rfl
theorem dk_1 : callR E45t 12 20 [.int .i64 s, .int .i64 g] ⟨[], 0, []⟩ [t, Dec.l, Dec.l, Dec.l] [] = some (.tuple ⟨[.int .u64 0, .bool false]⟩, ⟨[], 0, []⟩, [decide (s < 0) = true]) := by kernel_rfl
theorem dk_2 : callR E45t 12 20 [.int .i64 s, .int .i64 g] ⟨[], 0, []⟩ [f, t, Dec.l, Dec.l] [] = some (.tuple ⟨[.int .u64 0, .bool false]⟩, ⟨[], 0, []⟩, [decide (s < 0) = false, decide (s > 11) = true]) := by kernel_rfl
theorem dk_3 : callR E45t 12 20 [.int .i64 s, .int .i64 g] ⟨[], 0, []⟩ [f, f, t, Dec.l] [] = some (.tuple ⟨[.int .u64 0, .bool false]⟩, ⟨[], 0, []⟩, [decide (s < 0) = false, decide (s > 11) = false, decide (g < 0) = true]) := by kernel_rfl
theorem dk_4 : callR E45t 12 20 [.int .i64 s, .int .i64 g] ⟨[], 0, []⟩ [f, f, f, t] [] = some (.tuple ⟨[.int .u64 0, .bool false]⟩, ⟨[], 0, []⟩, [decide (s < 0) = false, decide (s > 11) = false, decide (g < 0) = false, decide (g > 1073741823) = true]) := by kernel_rfl
theorem dk_5 : callR E45t 12 20 [.int .i64 s, .int .i64 g] ⟨[], 0, []⟩ [f, f, f, f] [] = some (.tuple ⟨[.int .u64 (u64 (w64 (w64 (w64 (16 * g) + s) + 1))), .bool true]⟩, ⟨[], 0, []⟩, [decide (s < 0) = false, decide (s > 11) = false, decide (g < 0) = false, decide (g > 1073741823) = false]) := by kernel_rfl
end
theorem mkOk_iff {s g : Int} : mkOk s g = true ↔ 0 ≤ s ∧ s ≤ 11 ∧ 0 ≤ g ∧ g ≤ 1073741823 := by
  unfold mkOk
  simp only [Bool.and_eq_true, decide_eq_true_eq]
  constructor
  · rintro ⟨⟨h1, h2⟩, h3, h4⟩; exact ⟨h1, h2, h3, h4⟩
  · rintro ⟨h1, h2, h3, h4⟩; exact ⟨⟨h1, h2⟩, h3, h4⟩
theorem mkV_no {s g : Int} (h : ¬ (0 ≤ s ∧ s ≤ 11 ∧ 0 ≤ g ∧ g ≤ 1073741823)) : mkV' s g = .tuple ⟨[.int .u64 0, .bool false]⟩ := by
  have : mkOk s g = false := eq_false_of_ne_true fun e => h (mkOk_iff.1 e)
  unfold mkV' mkT
  rw [this]
  rfl
theorem mkV_yes {s g : Int} (h : 0 ≤ s ∧ s ≤ 11 ∧ 0 ≤ g ∧ g ≤ 1073741823) : mkV' s g = .tuple ⟨[.int .u64 (16 * g + s + 1), .bool true]⟩ := by
  have : mkOk s g = true := mkOk_iff.2 h
  unfold mkV' mkT
  rw [this]
  rfl
theorem clI_eq (x hi : Int) (h : 0 ≤ hi) : clI x hi = x ↔ 0 ≤ x ∧ x ≤ hi := by
  unfold clI
  simp only
  split <;> split <;> omega
theorem mkW_eq {s g : Int} (h : 0 ≤ s ∧ s ≤ 11 ∧ 0 ≤ g ∧ g ≤ 1073741823) : mkW s g = 16 * g + s + 1 := by
  obtain ⟨h1, h2, h3, h4⟩ := h
  unfold mkW
  rw [w64_in (by omega) (by omega), w_u64 (n := s + 1) (by omega) (by omega), w_u64 (n := g) (by omega) (by omega), w_u64 (n := g * 16) (by omega) (by omega)]
  obtain ⟨a, rfl⟩ : ∃ a : Nat, s = (a : Int) := ⟨s.toNat, by omega⟩
  obtain ⟨b, rfl⟩ : ∃ b : Nat, g = (b : Int) := ⟨g.toNat, by omega⟩
  have e1 : BitVec.ofInt 64 ((a : Int) + 1) = BitVec.ofNat 64 (a + 1) := by
    rw [show ((a : Int) + 1) = ((a + 1 : Nat) : Int) by omega]
    exact BitVec.ofInt_natCast 64 _
  have e2 : BitVec.ofInt 64 ((b : Int) * 16) = BitVec.ofNat 64 (b * 16) := by
    rw [show ((b : Int) * 16) = ((b * 16 : Nat) : Int) by omega]
    exact BitVec.ofInt_natCast 64 _
  rw [e1, e2, BitVec.toNat_or, BitVec.toNat_ofNat, BitVec.toNat_ofNat, Nat.mod_eq_of_lt (a := a + 1) (by omega), Nat.mod_eq_of_lt (a := b * 16) (by omega)]
  have h5 : (a + 1) ||| b * 16 = b * 16 + (a + 1) := by
    rw [Nat.or_comm, show b * 16 = b <<< 4 by rw [Nat.shiftLeft_eq]]
    exact (Nat.shiftLeft_add_eq_or_of_lt (show a + 1 < 2 ^ 4 by omega) b).symm
  rw [h5, w_u64 (by omega) (by omega)]
  omega
theorem mk_C (s g : Int) : CallC Try.prog 89 [.int .i64 s, .int .i64 g] ⟨[], 0, []⟩ (mkV' s g) ⟨[], 0, []⟩ := by
  by_cases h : 0 ≤ s ∧ s ≤ 11 ∧ 0 ≤ g ∧ g ≤ 1073741823
  · have e1 : (clI s 11 == s) = true := beq_iff_eq.2 ((clI_eq s 11 (by omega)).2 ⟨h.1, h.2.1⟩)
    have e2 : (clI g 1073741823 == g) = true := beq_iff_eq.2 ((clI_eq g 1073741823 (by omega)).2 ⟨h.2.2.1, h.2.2.2⟩)
    have hp := path E45tok 12 (mk_yes s g) (pcs_of ⟨by rw [e1, e2]; rfl, by omega, by omega, by omega, by omega, by omega, trivial⟩) rfl
    rw [mkV_yes h, ← mkW_eq h]
    exact hp
  · rw [mkV_no h]
    refine path E45tok 12 (mk_no s g) (pcs_of ⟨?_, trivial⟩) rfl
    rw [Bool.not_eq_true', Bool.and_eq_false_iff]
    by_cases h1 : 0 ≤ s ∧ s ≤ 11
    · exact .inr (beq_eq_false_iff_ne.2 fun e => h ⟨h1.1, h1.2, (clI_eq g 1073741823 (by omega)).1 e⟩)
    · exact .inl (beq_eq_false_iff_ne.2 fun e => h1 ((clI_eq s 11 (by omega)).1 e))
theorem dk_C (s g : Int) : CallC Try.prog 20 [.int .i64 s, .int .i64 g] ⟨[], 0, []⟩ (mkV' s g) ⟨[], 0, []⟩ := by
  by_cases h1 : s < 0
  · rw [mkV_no (by omega)]
    exact path E45tok 12 (dk_1 s g) (pcs_of ⟨decide_eq_true h1, trivial⟩) rfl
  by_cases h2 : s > 11
  · rw [mkV_no (by omega)]
    exact path E45tok 12 (dk_2 s g) (pcs_of ⟨decide_eq_false h1, decide_eq_true h2, trivial⟩) rfl
  by_cases h3 : g < 0
  · rw [mkV_no (by omega)]
    exact path E45tok 12 (dk_3 s g) (pcs_of ⟨decide_eq_false h1, decide_eq_false h2, decide_eq_true h3, trivial⟩) rfl
  by_cases h4 : g > 1073741823
  · rw [mkV_no (by omega)]
    exact path E45tok 12 (dk_4 s g) (pcs_of ⟨decide_eq_false h1, decide_eq_false h2, decide_eq_false h3, decide_eq_true h4, trivial⟩) rfl
  have hp := path E45tok 12 (dk_5 s g) (pcs_of ⟨decide_eq_false h1, decide_eq_false h2, decide_eq_false h3, decide_eq_false h4, trivial⟩) rfl
  rw [mkV_yes (by omega)]
  rw [w64_in (n := 16 * g) (by omega) (by omega), w64_in (n := 16 * g + s) (by omega) (by omega), w64_in (by omega) (by omega), w_u64 (by omega) (by omega)] at hp
  exact hp
def gII (r : Int → Int → Value) (args : List Value) (hp : Hp) : Option (Value × Hp × List Prop) :=
  match args with
  | [.int .i64 a, .int .i64 b] => some (r a b, hp, [])
  | _ => none
theorem gII_ok {r : Int → Int → Value} {f : FuncId} (hent : Enters Try.prog f) (hn : ∀ a b, nm (r a b) = []) (hC : ∀ a b, CallC Try.prog f [.int .i64 a, .int .i64 b] ⟨[], 0, []⟩ (r a b) ⟨[], 0, []⟩) :
    ∀ args hp v hp' pc, gII r args hp = some (v, hp', pc) → ∀ ds, CallOk Try.prog f args hp ⟨v, hp', ds, pc⟩ := by
  intro args hp v hp' pc hg ds
  unfold gII at hg
  split at hg
  · simp only [Option.some.injEq, Prod.mk.injEq] at hg
    obtain ⟨rfl, rfl, rfl⟩ := hg
    exact CallC.pure hent (fun _ => hC _ _) rfl (hn _ _) hp ds
  · cases hg
/-! The slot of a ticket -/
def tkOk (h : Int) : Bool := decide (1 ≤ h % 16) && decide (h % 16 ≤ 12)
def tkS (h : Int) : Int := if tkOk h = true then h % 16 - 1 else 0
def slV (h : Int) : Value := .tuple ⟨[.int .i64 (tkS h), .bool (tkOk h)]⟩
def gI1 (pre : Int → Prop) (r : Int → Value) (args : List Value) (hp : Hp) : Option (Value × Hp × List Prop) :=
  match args with
  | [.int .u64 w] => some (r w, hp, [pre w])
  | _ => none
theorem gI1_ok {pre : Int → Prop} {r : Int → Value} {f : FuncId} (hent : Enters Try.prog f) (hn : ∀ w, nm (r w) = []) (hC : ∀ w, pre w → CallC Try.prog f [.int .u64 w] ⟨[], 0, []⟩ (r w) ⟨[], 0, []⟩) :
    ∀ args hp v hp' pc, gI1 pre r args hp = some (v, hp', pc) → ∀ ds, CallOk Try.prog f args hp ⟨v, hp', ds, pc⟩ := by
  intro args hp v hp' pc hg ds
  unfold gI1 at hg
  split at hg
  · simp only [Option.some.injEq, Prod.mk.injEq] at hg
    obtain ⟨rfl, rfl, rfl⟩ := hg
    exact CallC.pure hent (fun h => hC _ (hd1 h)) rfl (hn _) hp ds
  · cases hg
open Dec in
section
variable (h : Int)
theorem ds_1 : callR E45 20 30 [.int .u64 h] ⟨[], 0, []⟩ [t, Dec.l] [] = some (.tuple ⟨[.int .i64 0, .bool false]⟩, ⟨[], 0, []⟩, [(16 : Int) ≠ 0, decide (h.tmod 16 < 1) = true]) := by kernel_rfl
theorem ds_2 : callR E45 20 30 [.int .u64 h] ⟨[], 0, []⟩ [f, t] [] = some (.tuple ⟨[.int .i64 0, .bool false]⟩, ⟨[], 0, []⟩, [(16 : Int) ≠ 0, decide (h.tmod 16 < 1) = false, (16 : Int) ≠ 0, decide (h.tmod 16 > 12) = true]) := by kernel_rfl
theorem ds_3 : callR E45 20 30 [.int .u64 h] ⟨[], 0, []⟩ [f, f] [] = some (.tuple ⟨[.int .i64 (w64 (w64 (h.tmod 16) - 1)), .bool true]⟩, ⟨[], 0, []⟩, [(16 : Int) ≠ 0, decide (h.tmod 16 < 1) = false, (16 : Int) ≠ 0, decide (h.tmod 16 > 12) = false, (16 : Int) ≠ 0]) := by kernel_rfl
end
theorem tkOk_iff {h : Int} : tkOk h = true ↔ 1 ≤ h % 16 ∧ h % 16 ≤ 12 := by unfold tkOk; rw [Bool.and_eq_true, decide_eq_true_eq, decide_eq_true_eq]
theorem slV_no {h : Int} (hn : ¬ (1 ≤ h % 16 ∧ h % 16 ≤ 12)) : slV h = .tuple ⟨[.int .i64 0, .bool false]⟩ := by
  have e : tkOk h = false := eq_false_of_ne_true fun e => hn (tkOk_iff.1 e)
  unfold slV tkS
  rw [e, if_neg (by simp)]
theorem slV_yes {h : Int} (hn : 1 ≤ h % 16 ∧ h % 16 ≤ 12) : slV h = .tuple ⟨[.int .i64 (h % 16 - 1), .bool true]⟩ := by
  have e : tkOk h = true := tkOk_iff.2 hn
  unfold slV tkS
  rw [e, if_pos rfl]
theorem ds_C {h : Int} (hw : Wd h) : CallC Try.prog 30 [.int .u64 h] ⟨[], 0, []⟩ (slV h) ⟨[], 0, []⟩ := by
  have e : h.tmod 16 = h % 16 := Int.tmod_eq_emod_of_nonneg hw.1
  by_cases h1 : h % 16 < 1
  · rw [slV_no (by omega)]
    exact path E45ok 20 (ds_1 h) (pcs_of ⟨by decide, by rw [e]; exact decide_eq_true h1, trivial⟩) rfl
  by_cases h2 : h % 16 > 12
  · rw [slV_no (by omega)]
    exact path E45ok 20 (ds_2 h) (pcs_of ⟨by decide, by rw [e]; exact decide_eq_false h1, by decide, by rw [e]; exact decide_eq_true h2, trivial⟩) rfl
  have hp := path E45ok 20 (ds_3 h) (pcs_of ⟨by decide, by rw [e]; exact decide_eq_false h1, by decide, by rw [e]; exact decide_eq_false h2, by decide, trivial⟩) rfl
  rw [e, w64_in (n := h % 16) (by omega) (by omega), w64_in (by omega) (by omega)] at hp
  rw [slV_yes (by omega)]
  exact hp
noncomputable def E46 : Env := ((E45t.add 89 (gII mkV')).add 20 (gII mkV')).add 30 (gI1 Wd slV)
theorem E46ok : EnvOk E46 := ((E45tok.add (gII_ok (enters (fn := Try.f89) (by kernel_rfl) (by kernel_rfl) rfl) (fun _ _ => rfl) mk_C)).add (gII_ok (enters (fn := Try.f20) (by kernel_rfl) (by kernel_rfl) rfl) (fun _ _ => rfl) dk_C)).add (gI1_ok (enters (fn := Try.f30) (by kernel_rfl) (by kernel_rfl) rfl) (fun _ => rfl) (fun _ h => ds_C h))
end Go.Proofs.Ytjkohcdgjlaobaa.Ct
