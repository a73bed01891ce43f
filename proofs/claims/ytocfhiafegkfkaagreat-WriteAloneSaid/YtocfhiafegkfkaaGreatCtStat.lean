/- The words of a status, the program's and the document's, told by plain functions. -/
import Derived.Test.YtocfhiafegkfkaaGreatCtObj
namespace Go.Proofs.YtocfhiafegkfkaaGreat.Ct
open Go Go.Proofs Go.Proofs.YtocfhiafegkfkaaGreat.Ev
open Go.RowKit

/-- So many bits of a word, from a place on. -/
def nuI (w a b : Int) : Int := w / pw a % pw b
def anyI (w side : Int) : Bool := if side < 0 ∨ side > 1 then false else decide (nuI w (12 * side) 12 ≠ 0) || bitI w (24 + side)
def mvI (w st : Int) (b : Bool) : Int := w / 1073741824 * 1073741824 + st % 8 * 134217728 + (if b then 67108864 else 0) + w % 67108864
def ofI (side slot : Int) : Int := if atI side slot < 0 then 0 else pw (atI side slot)
def unI (w : Int) : Value := .agg ⟨[.int .i64 (nuI w 30 32), .int .i64 (nuI w 27 3), .bool (bitI w 26), .bool (bitI w 25), .bool (bitI w 24), .int .i64 (nuI w 12 12), .int .i64 (nuI w 0 12)]⟩
theorem nuI_rng {w a b : Int} (hb : b ≤ 62) : 0 ≤ nuI w a b ∧ nuI w a b < pw b ∧ nuI w a b ≤ 4611686018427387904 := by
  have h1 := Int.emod_nonneg (w / pw a) (show pw b ≠ 0 by have := pw_pos b; omega)
  have h2 := Int.emod_lt_of_pos (w / pw a) (pw_pos b)
  have h3 : pw b ≤ 4611686018427387904 := by
    have := Nat.pow_le_pow_right (n := 2) (by omega) (show b.toNat ≤ 62 by omega)
    rw [pw_nat]
    omega
  unfold nuI
  exact ⟨h1, h2, by omega⟩
/-! number -/
noncomputable def Ez0 : Env := (E19.add 73 gPw).add 105 gBt
theorem Ez0ok : EnvOk Ez0 := (E19ok.add gPw_ok).add gBt_ok
theorem nu_path (w a b : Int) : callR Ez0 8 56 [.int .u64 w, .int .i64 a, .int .i64 b] ⟨[], 0, []⟩ [] [] = some (.int .i64 (w64 (Int.tmod (u64 (Int.tdiv w (pw a))) (pw b))), ⟨[], 0, []⟩, [a ≤ 63, pw a ≠ 0, b ≤ 63, pw b ≠ 0]) := by kernel_rfl
theorem nu_C {w a b : Int} (hw : Wd w) (ha : a ≤ 63) (hb : b ≤ 62) : CallC Tryz.prog 56 [.int .u64 w, .int .i64 a, .int .i64 b] ⟨[], 0, []⟩ (.int .i64 (nuI w a b)) ⟨[], 0, []⟩ := by
  have pa := pw_pos a
  have pb := pw_pos b
  have h := path Ez0ok 8 (nu_path w a b) (pcs_of ⟨ha, by omega, by omega, by omega, trivial⟩) rfl
  have hd := div_rng hw pa
  obtain ⟨h1, _, h3⟩ := nuI_rng (w := w) (a := a) hb
  unfold nuI at h1 h3
  rw [tdiv_nn hw.1, w_u64 hd.1 hd.2, Int.tmod_eq_emod_of_nonneg hd.1, w64_in (by omega) (by omega)] at h
  exact h
def gNu (args : List Value) (hp : Hp) : Option (Value × Hp × List Prop) :=
  match args with
  | [.int .u64 w, .int .i64 a, .int .i64 b] => some (.int .i64 (nuI w a b), hp, [Wd w ∧ a ≤ 63 ∧ b ≤ 62])
  | _ => none
theorem gNu_ok : ∀ args hp v hp' pc, gNu args hp = some (v, hp', pc) → ∀ ds, CallOk Tryz.prog 56 args hp ⟨v, hp', ds, pc⟩ := by
  intro args hp v hp' pc hg ds
  unfold gNu at hg
  split at hg
  · simp only [Option.some.injEq, Prod.mk.injEq] at hg
    obtain ⟨rfl, rfl, rfl⟩ := hg
    exact CallC.pure (enters (fn := Tryz.f56) (by kernel_rfl) (by kernel_rfl) rfl) (fun h => nu_C (hd1 h).1 (hd1 h).2.1 (hd1 h).2.2) rfl rfl hp ds
  · cases hg
noncomputable def Ez : Env := (((Ez0.add 69 gPt).add 56 gNu).add 93 gAt1)
theorem Ezok : EnvOk Ez := (((Ez0ok.add gPt_ok).add gNu_ok).add gAt1_ok)
/-! The document's -/
open Dec in
section
variable (w side slot st : Int) (b : Bool)
theorem rh_t : callR Ez 8 70 [.int .u64 w, .int .i64 side, .int .i64 slot] ⟨[], 0, []⟩ [t] [] = some (.bool (bitI w (atI side slot)), ⟨[], 0, []⟩, [decide (atI side slot ≥ 0) = true, Wd w ∧ atI side slot ≤ 63]) := by kernel_rfl
theorem rh_f : callR Ez 8 70 [.int .u64 w, .int .i64 side, .int .i64 slot] ⟨[], 0, []⟩ [f] [] = some (.bool false, ⟨[], 0, []⟩, [decide (atI side slot ≥ 0) = false]) := by kernel_rfl
theorem ra_1 : callR Ez 8 71 [.int .u64 w, .int .i64 side] ⟨[], 0, []⟩ [t, Dec.l] [] = some (.bool false, ⟨[], 0, []⟩, [decide (side < 0) = true]) := by kernel_rfl
theorem ra_2 : callR Ez 8 71 [.int .u64 w, .int .i64 side] ⟨[], 0, []⟩ [f, t] [] = some (.bool false, ⟨[], 0, []⟩, [decide (side < 0) = false, decide (side > 1) = true]) := by kernel_rfl
theorem ra_0t : callR Ez 8 71 [.int .u64 w, .int .i64 0] ⟨[], 0, []⟩ [Dec.l, Dec.l, t] [] = some (.bool true, ⟨[], 0, []⟩, [Wd w ∧ (0 : Int) ≤ 63 ∧ (12 : Int) ≤ 62, decide (nuI w 0 12 > 0) = true]) := by kernel_rfl
theorem ra_0f : callR Ez 8 71 [.int .u64 w, .int .i64 0] ⟨[], 0, []⟩ [Dec.l, Dec.l, f] [] = some (.bool (bitI w 24), ⟨[], 0, []⟩, [Wd w ∧ (0 : Int) ≤ 63 ∧ (12 : Int) ≤ 62, decide (nuI w 0 12 > 0) = false, Wd w ∧ (24 : Int) ≤ 63]) := by kernel_rfl
theorem ra_1t : callR Ez 8 71 [.int .u64 w, .int .i64 1] ⟨[], 0, []⟩ [Dec.l, Dec.l, t] [] = some (.bool true, ⟨[], 0, []⟩, [Wd w ∧ (12 : Int) ≤ 63 ∧ (12 : Int) ≤ 62, decide (nuI w 12 12 > 0) = true]) := by kernel_rfl
theorem ra_1f : callR Ez 8 71 [.int .u64 w, .int .i64 1] ⟨[], 0, []⟩ [Dec.l, Dec.l, f] [] = some (.bool (bitI w 25), ⟨[], 0, []⟩, [Wd w ∧ (12 : Int) ≤ 63 ∧ (12 : Int) ≤ 62, decide (nuI w 12 12 > 0) = false, Wd w ∧ (25 : Int) ≤ 63]) := by kernel_rfl
def mv0 (w low : Int) : Int := u64 (u64 (w - u64 (134217728 * u64 (nuI w 27 3))) + u64 (134217728 * u64 low))
theorem rm_t : callR Ez 8 32 [.int .u64 w, .int .i64 st, .bool b] ⟨[], 0, []⟩ [t] [] = some (.int .u64 (putI (mv0 w (w64 (Int.tmod st 8 + 8))) 26 b), ⟨[], 0, []⟩, [(8 : Int) ≠ 0, decide (Int.tmod st 8 < 0) = true, (27 : Int) ≤ 63, Wd w ∧ (27 : Int) ≤ 63 ∧ (3 : Int) ≤ 62, (27 : Int) ≤ 63, Wd (mv0 w (w64 (Int.tmod st 8 + 8))) ∧ (26 : Int) ≤ 63]) := by kernel_rfl
theorem rm_f : callR Ez 8 32 [.int .u64 w, .int .i64 st, .bool b] ⟨[], 0, []⟩ [f] [] = some (.int .u64 (putI (mv0 w (Int.tmod st 8)) 26 b), ⟨[], 0, []⟩, [(8 : Int) ≠ 0, decide (Int.tmod st 8 < 0) = false, (27 : Int) ≤ 63, Wd w ∧ (27 : Int) ≤ 63 ∧ (3 : Int) ≤ 62, (27 : Int) ≤ 63, Wd (mv0 w (Int.tmod st 8)) ∧ (26 : Int) ≤ 63]) := by kernel_rfl
end
theorem rh_C {w : Int} (hw : Wd w) (side slot : Int) : CallC Tryz.prog 70 [.int .u64 w, .int .i64 side, .int .i64 slot] ⟨[], 0, []⟩ (.bool (hasI w side slot)) ⟨[], 0, []⟩ := by
  unfold hasI
  by_cases h : atI side slot ≥ 0
  · rw [decide_eq_true (show 0 ≤ atI side slot from h), Bool.true_and]
    exact path Ezok 8 (rh_t w side slot) (pcs_of ⟨decide_eq_true h, ⟨hw, by have := (atI_le side slot).2; omega⟩, trivial⟩) rfl
  · rw [decide_eq_false (show ¬ 0 ≤ atI side slot from h), Bool.false_and]
    exact path Ezok 8 (rh_f w side slot) (pcs_of ⟨decide_eq_false h, trivial⟩) rfl
theorem ra_C {w : Int} (hw : Wd w) (side : Int) : CallC Tryz.prog 71 [.int .u64 w, .int .i64 side] ⟨[], 0, []⟩ (.bool (anyI w side)) ⟨[], 0, []⟩ := by
  unfold anyI
  by_cases h1 : side < 0
  · rw [if_pos (.inl h1)]
    exact path Ezok 8 (ra_1 w side) (pcs_of ⟨decide_eq_true h1, trivial⟩) rfl
  by_cases h2 : side > 1
  · rw [if_pos (.inr h2)]
    exact path Ezok 8 (ra_2 w side) (pcs_of ⟨decide_eq_false h1, decide_eq_true h2, trivial⟩) rfl
  rw [if_neg (by omega)]
  have h : side = 0 ∨ side = 1 := by omega
  rcases h with rfl | rfl
  · show CallC _ _ _ _ (.bool (decide (nuI w 0 12 ≠ 0) || bitI w 24)) _
    have h0 := (nuI_rng (w := w) (a := 0) (b := 12) (by omega)).1
    by_cases h : nuI w 0 12 > 0
    · rw [decide_eq_true (show nuI w 0 12 ≠ 0 by omega), Bool.true_or]
      exact path Ezok 8 (ra_0t w) (pcs_of ⟨⟨hw, by omega, by omega⟩, decide_eq_true h, trivial⟩) rfl
    · rw [decide_eq_false (show ¬ nuI w 0 12 ≠ 0 by omega), Bool.false_or]
      exact path Ezok 8 (ra_0f w) (pcs_of ⟨⟨hw, by omega, by omega⟩, decide_eq_false h, ⟨hw, by omega⟩, trivial⟩) rfl
  · show CallC _ _ _ _ (.bool (decide (nuI w 12 12 ≠ 0) || bitI w 25)) _
    have h0 := (nuI_rng (w := w) (a := 12) (b := 12) (by omega)).1
    by_cases h : nuI w 12 12 > 0
    · rw [decide_eq_true (show nuI w 12 12 ≠ 0 by omega), Bool.true_or]
      exact path Ezok 8 (ra_1t w) (pcs_of ⟨⟨hw, by omega, by omega⟩, decide_eq_true h, trivial⟩) rfl
    · rw [decide_eq_false (show ¬ nuI w 12 12 ≠ 0 by omega), Bool.false_or]
      exact path Ezok 8 (ra_1f w) (pcs_of ⟨⟨hw, by omega, by omega⟩, decide_eq_false h, ⟨hw, by omega⟩, trivial⟩) rfl
theorem nu27 (w : Int) : nuI w 27 3 = w / 134217728 % 8 := rfl
theorem bit26 (w : Int) : bitI w 26 = (w / 67108864 % 2 == 1) := rfl
theorem put26 {x : Int} (b : Bool) : putI x 26 b = x / 134217728 * 134217728 + (if b then 67108864 else 0) + x % 67108864 := by
  unfold putI
  rw [bit26]
  show (if _ then x else if b then x + 67108864 else x - 67108864) = _
  by_cases h : x / 67108864 % 2 = 1
  · rw [beq_iff_eq.2 h]
    cases b
    · rw [if_neg (by simp)]; simp only [Bool.false_eq_true, if_false]; omega
    · rw [if_pos rfl]; simp only [if_true]; omega
  · rw [beq_eq_false_iff_ne.2 h]
    cases b
    · rw [if_pos rfl]; simp only [Bool.false_eq_true, if_false]; omega
    · rw [if_neg (by simp)]; simp only [if_true]; omega
theorem mvI_rng {w : Int} (hw : Wd w) (st : Int) (b : Bool) : Wd (mvI w st b) := by
  obtain ⟨h0, h1⟩ := hw
  unfold mvI
  cases b
  · simp only [Bool.false_eq_true, if_false]; exact ⟨by omega, by omega⟩
  · simp only [if_true]; exact ⟨by omega, by omega⟩
theorem mv0_eq {w low : Int} (hw : Wd w) (h0 : 0 ≤ low) (h1 : low < 8) : mv0 w low = w / 1073741824 * 1073741824 + low * 134217728 + w % 134217728 ∧ Wd (mv0 w low) := by
  obtain ⟨w0, w1⟩ := hw
  have e : mv0 w low = w / 1073741824 * 1073741824 + low * 134217728 + w % 134217728 := by
    unfold mv0
    rw [nu27, w_u64 (n := w / 134217728 % 8) (by omega) (by omega), w_u64 (n := 134217728 * (w / 134217728 % 8)) (by omega) (by omega), w_u64 (n := w - 134217728 * (w / 134217728 % 8)) (by omega) (by omega), w_u64 (n := low) (by omega) (by omega), w_u64 (n := 134217728 * low) (by omega) (by omega), w_u64 (by omega) (by omega)]
    omega
  exact ⟨e, by rw [e]; exact ⟨by omega, by omega⟩⟩
theorem rm_C {w : Int} (hw : Wd w) (st : Int) (b : Bool) : CallC Tryz.prog 32 [.int .u64 w, .int .i64 st, .bool b] ⟨[], 0, []⟩ (.int .u64 (mvI w st b)) ⟨[], 0, []⟩ := by
  have key : ∀ low, 0 ≤ low → low < 8 → low = st % 8 → putI (mv0 w low) 26 b = mvI w st b := fun low h0 h1 h2 => by
    rw [(mv0_eq hw h0 h1).1, put26]
    unfold mvI
    rw [← h2]
    obtain ⟨w0, w1⟩ := hw
    generalize (if b then (67108864 : Int) else 0) = x
    omega
  by_cases h : Int.tmod st 8 < 0
  · have e : w64 (Int.tmod st 8 + 8) = st % 8 ∧ 0 ≤ st % 8 ∧ st % 8 < 8 := by
      have h2 : -8 < Int.tmod st 8 := by
        have := Int.lt_tmod_of_pos st (show (0 : Int) < 8 by omega)
        omega
      rw [w64_in (by omega) (by omega)]
      have := Int.tmod_eq_emod (a := st) (b := 8)
      split at this <;> omega
    have := path Ezok 8 (rm_t w st b) (pcs_of ⟨by decide, decide_eq_true h, by decide, ⟨hw, by decide, by decide⟩, by decide, ⟨by rw [e.1]; exact (mv0_eq hw e.2.1 e.2.2).2, by decide⟩, trivial⟩) rfl
    rw [e.1, key _ e.2.1 e.2.2 rfl] at this
    exact this
  · have e : Int.tmod st 8 = st % 8 ∧ 0 ≤ st % 8 ∧ st % 8 < 8 := by
      have h2 : Int.tmod st 8 < 8 := Int.tmod_lt_of_pos _ (by omega)
      have := Int.tmod_eq_emod (a := st) (b := 8)
      split at this <;> omega
    have := path Ezok 8 (rm_f w st b) (pcs_of ⟨by decide, decide_eq_false h, by decide, ⟨hw, by decide, by decide⟩, by decide, ⟨by rw [e.1]; exact (mv0_eq hw e.2.1 e.2.2).2, by decide⟩, trivial⟩) rfl
    rw [e.1, key _ e.2.1 e.2.2 rfl] at this
    exact this
/-! The program's -/
open Dec in
section
variable (w side slot st : Int) (b : Bool)
theorem of_1 : callR Ez 8 188 [.int .i64 side, .int .i64 slot] ⟨[], 0, []⟩ [t, Dec.l, Dec.l, Dec.l] [] = some (.int .u64 0, ⟨[], 0, []⟩, [decide (side < 0) = true]) := by kernel_rfl
theorem of_2 : callR Ez 8 188 [.int .i64 side, .int .i64 slot] ⟨[], 0, []⟩ [f, t, Dec.l, Dec.l] [] = some (.int .u64 0, ⟨[], 0, []⟩, [decide (side < 0) = false, decide (side > 1) = true]) := by kernel_rfl
theorem of_3 : callR Ez 8 188 [.int .i64 side, .int .i64 slot] ⟨[], 0, []⟩ [f, f, t, Dec.l] [] = some (.int .u64 0, ⟨[], 0, []⟩, [decide (side < 0) = false, decide (side > 1) = false, decide (slot < 0) = true]) := by kernel_rfl
theorem of_4 : callR Ez 8 188 [.int .i64 side, .int .i64 slot] ⟨[], 0, []⟩ [f, f, f, t] [] = some (.int .u64 0, ⟨[], 0, []⟩, [decide (side < 0) = false, decide (side > 1) = false, decide (slot < 0) = false, decide (slot ≥ 12) = true]) := by kernel_rfl
theorem of_5 : callR Ez 8 188 [.int .i64 side, .int .i64 slot] ⟨[], 0, []⟩ [f, f, f, f] [] = some (.int .u64 (u64 (1 * 2 ^ min (w64 (w64 (side * 12) + slot)).toNat 64)), ⟨[], 0, []⟩, [decide (side < 0) = false, decide (side > 1) = false, decide (slot < 0) = false, decide (slot ≥ 12) = false, 0 ≤ w64 (w64 (side * 12) + slot)]) := by kernel_rfl
end
theorem of_st (side slot : Int) : CallC Tryz.prog 188 [.int .i64 side, .int .i64 slot] ⟨[], 0, []⟩ (.int .u64 (ofI side slot)) ⟨[], 0, []⟩ := by
  have ha : ∀ h : side < 0 ∨ side > 1 ∨ slot < 0 ∨ slot > 11, ofI side slot = 0 := fun h => by
    unfold ofI atI
    simp only [if_pos h]
    rfl
  by_cases h1 : side < 0
  · rw [ha (.inl h1)]
    exact path Ezok 8 (of_1 side slot) (pcs_of ⟨decide_eq_true h1, trivial⟩) rfl
  by_cases h2 : side > 1
  · rw [ha (.inr (.inl h2))]
    exact path Ezok 8 (of_2 side slot) (pcs_of ⟨decide_eq_false h1, decide_eq_true h2, trivial⟩) rfl
  by_cases h3 : slot < 0
  · rw [ha (.inr (.inr (.inl h3)))]
    exact path Ezok 8 (of_3 side slot) (pcs_of ⟨decide_eq_false h1, decide_eq_false h2, decide_eq_true h3, trivial⟩) rfl
  by_cases h4 : slot ≥ 12
  · rw [ha (.inr (.inr (.inr (by omega))))]
    exact path Ezok 8 (of_4 side slot) (pcs_of ⟨decide_eq_false h1, decide_eq_false h2, decide_eq_false h3, decide_eq_true h4, trivial⟩) rfl
  · have e : w64 (w64 (side * 12) + slot) = 12 * side + slot := by
      rw [w64_in (n := side * 12) (by omega) (by omega), w64_in (by omega) (by omega)]
      omega
    have e0 : ofI side slot = pw (12 * side + slot) := by
      unfold ofI atI
      simp only [if_neg (show ¬ (side < 0 ∨ side > 1 ∨ slot < 0 ∨ slot > 11) by omega)]
      rw [if_neg (show ¬ 12 * side + slot < 0 by omega)]
    rw [e0]
    have h := path Ezok 8 (of_5 side slot) (pcs_of ⟨decide_eq_false h1, decide_eq_false h2, decide_eq_false h3, decide_eq_false h4, by rw [e]; omega, trivial⟩) rfl
    have hp := pw_pos (12 * side + slot)
    have hq := pw_le (n := 12 * side + slot) (by omega)
    rw [e, Nat.min_eq_left (by omega), Int.one_mul] at h
    have e2 : u64 (2 ^ (12 * side + slot).toNat) = pw (12 * side + slot) := w_u64 (n := pw (12 * side + slot)) (by omega) (by omega)
    rw [e2] at h
    exact h
def gOfS (args : List Value) (hp : Hp) : Option (Value × Hp × List Prop) :=
  match args with
  | [.int .i64 a, .int .i64 b] => some (.int .u64 (ofI a b), hp, [])
  | _ => none
theorem gOfS_ok : ∀ args hp v hp' pc, gOfS args hp = some (v, hp', pc) → ∀ ds, CallOk Tryz.prog 188 args hp ⟨v, hp', ds, pc⟩ := by
  intro args hp v hp' pc hg ds
  unfold gOfS at hg
  split at hg
  · simp only [Option.some.injEq, Prod.mk.injEq] at hg
    obtain ⟨rfl, rfl, rfl⟩ := hg
    exact CallC.pure (enters (fn := Tryz.f188) (by kernel_rfl) (by kernel_rfl) rfl) (fun _ => of_st _ _) rfl rfl hp ds
  · cases hg
noncomputable def Ez2 : Env := Ez.add 188 gOfS
theorem Ez2ok : EnvOk Ez2 := Ezok.add gOfS_ok
theorem bv_pw {n : Int} (h : n ≤ 63) : BitVec.ofInt 64 (pw n) = BitVec.twoPow 64 n.toNat := by
  have h1 := pw_pos n
  have h2 := pw_le h
  apply BitVec.eq_of_toNat_eq
  rw [BitVec.toNat_ofInt, BitVec.toNat_twoPow, pw_nat]
  rfl
theorem bv_bit {w n : Int} (hw : Wd w) (h : n ≤ 63) : (BitVec.ofInt 64 w).getLsbD n.toNat = bitI w n := by
  have e : BitVec.ofInt 64 w = BitVec.ofNat 64 w.toNat := by
    apply BitVec.eq_of_toNat_eq
    rw [BitVec.toNat_ofInt, BitVec.toNat_ofNat]
    obtain ⟨w0, w1⟩ := hw
    omega
  rw [e, BitVec.getLsbD_ofNat, decide_eq_true (show n.toNat < 64 by omega), Bool.true_and, Nat.testBit_eq_decide_div_mod_eq]
  unfold bitI
  rw [pw_nat]
  have e2 : ((w.toNat / 2 ^ n.toNat % 2 : Nat) : Int) = w / ((2 ^ n.toNat : Nat) : Int) % 2 := by
    rw [Int.natCast_emod, Int.natCast_ediv, Int.toNat_of_nonneg hw.1]
    rfl
  rw [← e2]
  by_cases h : w.toNat / 2 ^ n.toNat % 2 = 1
  · rw [decide_eq_true h, h]; rfl
  · rw [decide_eq_false h]
    symm
    rw [beq_eq_false_iff_ne]
    omega
theorem or_pw {w n : Int} (hw : Wd w) (h : n ≤ 63) : u64 (((BitVec.ofInt 64 w ||| BitVec.ofInt 64 (pw n)).toNat : Nat) : Int) = putI w n true := by
  have hb := bv_bit hw h
  have hr := putI_rng hw h true
  rw [u64_bv, bv_pw h]
  unfold putI at hr ⊢
  have hw' : ((BitVec.ofInt 64 w).toNat : Int) = w := by
    rw [BitVec.toNat_ofInt]
    obtain ⟨w0, w1⟩ := hw
    omega
  cases hx : bitI w n
  · rw [hx, if_neg (by simp), if_pos rfl] at hr
    rw [if_neg (by simp), if_pos rfl]
    have e : BitVec.ofInt 64 w &&& BitVec.twoPow 64 n.toNat = 0#64 := by
      rw [BitVec.and_twoPow, hb, hx]
      rfl
    rw [← BitVec.add_eq_or_of_and_eq_zero _ _ e, BitVec.toNat_add, BitVec.toNat_twoPow, Nat.mod_eq_of_lt (a := 2 ^ n.toNat) (Nat.pow_lt_pow_right (by omega) (by omega))]
    rw [pw_nat] at hr ⊢
    obtain ⟨r0, r1⟩ := hr
    omega
  · rw [if_pos rfl]
    have e : BitVec.ofInt 64 w ||| BitVec.twoPow 64 n.toNat = BitVec.ofInt 64 w := by
      apply BitVec.eq_of_getLsbD_eq
      intro i hi
      rw [BitVec.getLsbD_or, BitVec.getLsbD_twoPow]
      by_cases hj : n.toNat = i
      · subst hj
        rw [hb, hx]
        rfl
      · simp [hj]
    rw [e]
    exact hw'
theorem and_pw {w n : Int} (hw : Wd w) (h : n ≤ 63) : (u64 (((BitVec.ofInt 64 w &&& BitVec.ofInt 64 (pw n)).toNat : Nat) : Int) != 0) = bitI w n := by
  have hb := bv_bit hw h
  rw [u64_bv, bv_pw h, BitVec.and_twoPow, hb]
  cases hx : bitI w n
  · rfl
  · rw [if_pos rfl, BitVec.toNat_twoPow, Nat.mod_eq_of_lt (Nat.pow_lt_pow_right (by omega) (by omega)), bne_iff_ne]
    have := Nat.pow_pos (n := n.toNat) (show 0 < 2 by omega)
    omega
theorem wt_path (w side slot : Int) : callR Ez2 8 189 [.int .u64 w, .int .i64 side, .int .i64 slot] ⟨[], 0, []⟩ [] [] = some (.int .u64 (u64 ((BitVec.ofInt 64 w ||| BitVec.ofInt 64 (ofI side slot)).toNat : Int)), ⟨[], 0, []⟩, []) := by kernel_rfl
theorem hs_path (w side slot : Int) : callR Ez2 8 183 [.int .u64 w, .int .i64 side, .int .i64 slot] ⟨[], 0, []⟩ [] [] = some (.bool (u64 ((BitVec.ofInt 64 w &&& BitVec.ofInt 64 (ofI side slot)).toNat : Int) != 0), ⟨[], 0, []⟩, []) := by kernel_rfl
theorem ws_C {w : Int} (hw : Wd w) (side slot : Int) : CallC Tryz.prog 189 [.int .u64 w, .int .i64 side, .int .i64 slot] ⟨[], 0, []⟩ (.int .u64 (withI w side slot)) ⟨[], 0, []⟩ := by
  have h := path Ez2ok 8 (wt_path w side slot) (by simp) rfl
  unfold ofI at h
  unfold withI
  by_cases ha : atI side slot < 0
  · rw [if_pos ha] at h ⊢
    have e : u64 ((BitVec.ofInt 64 w ||| BitVec.ofInt 64 0).toNat : Int) = w := by
      rw [u64_bv, show BitVec.ofInt 64 0 = 0#64 from rfl, BitVec.or_zero, BitVec.toNat_ofInt]
      obtain ⟨w0, w1⟩ := hw
      omega
    rw [e] at h
    exact h
  · rw [if_neg ha] at h ⊢
    rw [or_pw hw (by have := (atI_le side slot).2; omega)] at h
    exact h
theorem hs_C {w : Int} (hw : Wd w) (side slot : Int) : CallC Tryz.prog 183 [.int .u64 w, .int .i64 side, .int .i64 slot] ⟨[], 0, []⟩ (.bool (hasI w side slot)) ⟨[], 0, []⟩ := by
  have h := path Ez2ok 8 (hs_path w side slot) (by simp) rfl
  unfold ofI at h
  unfold hasI
  by_cases ha : atI side slot < 0
  · rw [if_pos ha] at h
    have e : (u64 ((BitVec.ofInt 64 w &&& BitVec.ofInt 64 0).toNat : Int) != 0) = false := by
      rw [u64_bv, show BitVec.ofInt 64 0 = 0#64 from rfl, BitVec.and_zero]
      rfl
    rw [e] at h
    rw [decide_eq_false (show ¬ 0 ≤ atI side slot by omega), Bool.false_and]
    exact h
  · rw [if_neg ha, and_pw hw (by have := (atI_le side slot).2; omega)] at h
    rw [decide_eq_true (show 0 ≤ atI side slot by omega), Bool.true_and]
    exact h
theorem bitB_k {w d : Int} (hw : Wd w) (hd : 0 < d) (k : Nat) (hk : k ≤ 62) : bitB w d (2 ^ k - 1 : Int) = w / d % 2 ^ k := by
  have hq := div_rng hw hd
  unfold bitB
  rw [Int.fdiv_eq_ediv_of_nonneg _ (by omega), andM hq.1 hq.2 k (by omega)]
  have hp : (2 : Int) ^ k ≤ 4611686018427387904 := by
    have := Nat.pow_le_pow_right (n := 2) (by omega) hk
    have h2 : ((2 ^ k : Nat) : Int) = (2 : Int) ^ k := by rw [Int.natCast_pow]; rfl
    omega
  have hp0 : (0 : Int) < 2 ^ k := by
    have := Nat.pow_pos (n := k) (show 0 < 2 by omega)
    have h2 : ((2 ^ k : Nat) : Int) = (2 : Int) ^ k := by rw [Int.natCast_pow]; rfl
    omega
  have h1 := Int.emod_nonneg (w / d) (show (2 : Int) ^ k ≠ 0 by omega)
  have h2 := Int.emod_lt_of_pos (w / d) hp0
  rw [w_u64 (by omega) (by omega), w64_in (by omega) (by omega)]
open Dec in
section
variable (w side : Int)
theorem an_1 : callR Ez2 12 184 [.int .u64 w, .int .i64 side] ⟨[], 0, []⟩ [t, Dec.l] [] = some (.bool false, ⟨[], 0, []⟩, [decide (side < 0) = true]) := by kernel_rfl
theorem an_2 : callR Ez2 12 184 [.int .u64 w, .int .i64 side] ⟨[], 0, []⟩ [f, t] [] = some (.bool false, ⟨[], 0, []⟩, [decide (side < 0) = false, decide (side > 1) = true]) := by kernel_rfl
theorem an_0t : callR Ez2 12 184 [.int .u64 w, .int .i64 0] ⟨[], 0, []⟩ [Dec.l, Dec.l, t] [] = some (.bool true, ⟨[], 0, []⟩, [(0 : Int) ≤ 0, (0 : Int) ≤ 12, (bitB w 1 4095 != 0) = true]) := by kernel_rfl
theorem an_0f : callR Ez2 12 184 [.int .u64 w, .int .i64 0] ⟨[], 0, []⟩ [Dec.l, Dec.l, f] [] = some (.bool (bitB w 16777216 1 == 1), ⟨[], 0, []⟩, [(0 : Int) ≤ 0, (0 : Int) ≤ 12, (bitB w 1 4095 != 0) = false, (0 : Int) ≤ 24, (0 : Int) ≤ 1]) := by kernel_rfl
theorem an_1t : callR Ez2 12 184 [.int .u64 w, .int .i64 1] ⟨[], 0, []⟩ [Dec.l, Dec.l, t] [] = some (.bool true, ⟨[], 0, []⟩, [(0 : Int) ≤ 12, (0 : Int) ≤ 12, (bitB w 4096 4095 != 0) = true]) := by kernel_rfl
theorem an_1f : callR Ez2 12 184 [.int .u64 w, .int .i64 1] ⟨[], 0, []⟩ [Dec.l, Dec.l, f] [] = some (.bool (bitB w 33554432 1 == 1), ⟨[], 0, []⟩, [(0 : Int) ≤ 12, (0 : Int) ≤ 12, (bitB w 4096 4095 != 0) = false, (0 : Int) ≤ 25, (0 : Int) ≤ 1]) := by kernel_rfl
end
theorem an_C {w : Int} (hw : Wd w) (side : Int) : CallC Tryz.prog 184 [.int .u64 w, .int .i64 side] ⟨[], 0, []⟩ (.bool (anyI w side)) ⟨[], 0, []⟩ := by
  have b0 : bitB w 1 4095 = nuI w 0 12 := bitB_k hw (d := 1) (by decide) 12 (by omega)
  have b1 : bitB w 4096 4095 = nuI w 12 12 := bitB_k hw (d := 4096) (by decide) 12 (by omega)
  have b2 : (bitB w 16777216 1 == 1) = bitI w 24 := by rw [show bitB w 16777216 1 = w / 16777216 % 2 from bitB_k hw (d := 16777216) (by decide) 1 (by omega)]; rfl
  have b3 : (bitB w 33554432 1 == 1) = bitI w 25 := by rw [show bitB w 33554432 1 = w / 33554432 % 2 from bitB_k hw (d := 33554432) (by decide) 1 (by omega)]; rfl
  unfold anyI
  by_cases h1 : side < 0
  · rw [if_pos (.inl h1)]
    exact path Ez2ok 12 (an_1 w side) (pcs_of ⟨decide_eq_true h1, trivial⟩) rfl
  by_cases h2 : side > 1
  · rw [if_pos (.inr h2)]
    exact path Ez2ok 12 (an_2 w side) (pcs_of ⟨decide_eq_false h1, decide_eq_true h2, trivial⟩) rfl
  rw [if_neg (by omega)]
  have h : side = 0 ∨ side = 1 := by omega
  rcases h with rfl | rfl
  · show CallC _ _ _ _ (.bool (decide (nuI w 0 12 ≠ 0) || bitI w 24)) _
    by_cases h : nuI w 0 12 = 0
    · rw [decide_eq_false (show ¬ nuI w 0 12 ≠ 0 by omega), Bool.false_or, ← b2]
      exact path Ez2ok 12 (an_0f w) (pcs_of ⟨by decide, by decide, by rw [b0, h]; rfl, by decide, by decide, trivial⟩) rfl
    · rw [decide_eq_true h, Bool.true_or]
      exact path Ez2ok 12 (an_0t w) (pcs_of ⟨by decide, by decide, by rw [b0]; exact bne_iff_ne.2 h, trivial⟩) rfl
  · show CallC _ _ _ _ (.bool (decide (nuI w 12 12 ≠ 0) || bitI w 25)) _
    by_cases h : nuI w 12 12 = 0
    · rw [decide_eq_false (show ¬ nuI w 12 12 ≠ 0 by omega), Bool.false_or, ← b3]
      exact path Ez2ok 12 (an_1f w) (pcs_of ⟨by decide, by decide, by rw [b1, h]; rfl, by decide, by decide, trivial⟩) rfl
    · rw [decide_eq_true h, Bool.true_or]
      exact path Ez2ok 12 (an_1t w) (pcs_of ⟨by decide, by decide, by rw [b1]; exact bne_iff_ne.2 h, trivial⟩) rfl
theorem unB_eq {w : Int} (hw : Wd w) : unB w = unI w := by
  have e1 : bitB w 1073741824 4294967295 = nuI w 30 32 := bitB_k hw (d := 1073741824) (by decide) 32 (by omega)
  have e2 : stB w = nuI w 27 3 := by rw [stB_eq hw.1 hw.2]; rfl
  have e3 : bsB w = bitI w 26 := bsB_eq hw.1 hw.2
  have e4 : (bitB w 33554432 1 == 1) = bitI w 25 := by rw [show bitB w 33554432 1 = w / 33554432 % 2 from bitB_k hw (d := 33554432) (by decide) 1 (by omega)]; rfl
  have e5 : (bitB w 16777216 1 == 1) = bitI w 24 := by rw [show bitB w 16777216 1 = w / 16777216 % 2 from bitB_k hw (d := 16777216) (by decide) 1 (by omega)]; rfl
  have e6 : bitB w 4096 4095 = nuI w 12 12 := bitB_k hw (d := 4096) (by decide) 12 (by omega)
  have e7 : bitB w 1 4095 = nuI w 0 12 := bitB_k hw (d := 1) (by decide) 12 (by omega)
  unfold unB unI
  rw [e1, e2, e3, e4, e5, e6, e7]
/-! The program's move -/
theorem mask_q (hi mid lo b q : Nat) (hm : mid < 16) (hb : b < 2) (hq : q < 8) (hlo : lo < 2 ^ 26) :
    ((BitVec.ofNat 64 (2 ^ 30 * hi + (2 ^ 26 * mid + lo)) &&& ~~~BitVec.ofNat 64 (2 ^ 26 * 15)) ||| BitVec.ofNat 64 (2 ^ 26 * b)) ||| BitVec.ofNat 64 (2 ^ 26 * (2 * q)) = BitVec.ofNat 64 (2 ^ 30 * hi + (2 ^ 26 * (2 * q + b) + lo)) := by
  apply BitVec.eq_of_getLsbD_eq
  intro j hj
  obtain ⟨e1, e2⟩ := bits_mid hi mid lo (2 * q + b) j hm (by omega) hlo
  simp only [BitVec.getLsbD_or, BitVec.getLsbD_and, BitVec.getLsbD_not, BitVec.getLsbD_ofNat, e1, e2, const_bits 15 j (by omega), const_bits b j (by omega), const_bits (2 * q) j (by omega), hj, decide_true, Bool.true_and]
  by_cases h1 : j < 26
  · simp [h1]
  · by_cases h2 : j < 30
    · simp only [h1, h2, if_true, if_false]
      have hj' : j - 26 = 0 ∨ j - 26 = 1 ∨ j - 26 = 2 ∨ j - 26 = 3 := by omega
      have hb' : b = 0 ∨ b = 1 := by omega
      have hq' : q = 0 ∨ q = 1 ∨ q = 2 ∨ q = 3 ∨ q = 4 ∨ q = 5 ∨ q = 6 ∨ q = 7 := by omega
      rcases hj' with h | h | h | h <;> rcases hb' with rfl | rfl <;> rcases hq' with rfl | rfl | rfl | rfl | rfl | rfl | rfl | rfl <;> rw [h] <;> simp [Nat.testBit, Nat.shiftRight_eq_div_pow]
    · simp [h1, h2]
def mvQ (w st : Int) (b : Bool) : Int := u64 ((BitVec.ofInt 64 (u64 ((BitVec.ofInt 64 (u64 ((BitVec.ofInt 64 w &&& ~~~BitVec.ofInt 64 1006632960).toNat : Int)) ||| BitVec.ofInt 64 (if b then 67108864 else 0)).toNat : Int)) ||| BitVec.ofInt 64 (u64 (u64 ((BitVec.ofInt 64 (u64 st) &&& BitVec.ofInt 64 7).toNat : Int) * 134217728))).toNat : Int)
theorem mq_path (w st : Int) (b : Bool) : callR Ez2 12 117 [.int .u64 w, .int .i64 st, .bool b] ⟨[], 0, []⟩ [Dec.l] [] = some (.int .u64 (mvQ w st b), ⟨[], 0, []⟩, [(0 : Int) ≤ 26, (0 : Int) ≤ 27]) := by cases b <;> kernel_rfl
theorem mvQ_eq {w : Int} (hw : Wd w) (st : Int) (b : Bool) : mvQ w st b = mvI w st b := by
  obtain ⟨h0, h1⟩ := hw
  have hu := u64_rng st
  have hm : u64 st % 8 = st % 8 := by
    unfold u64
    rw [IntKind.wrap_u64]
    omega
  have e7 : u64 ((BitVec.ofInt 64 (u64 st) &&& BitVec.ofInt 64 7).toNat : Int) = st % 8 := by
    have := andM (x := u64 st) hu.1 hu.2 3 (by omega)
    rw [show ((2 : Int) ^ 3 - 1) = 7 from rfl, show ((2 : Int) ^ 3) = 8 from rfl] at this
    rw [this, hm, w_u64 (by omega) (by omega)]
  unfold mvQ
  rw [e7, w_u64 (n := st % 8 * 134217728) (by omega) (by omega), u64_bv, u64_bv, u64_bv, ofInt_toNat, ofInt_toNat]
  have ew : BitVec.ofInt 64 w = BitVec.ofNat 64 (2 ^ 30 * (w / 1073741824).toNat + (2 ^ 26 * (w / 67108864 % 16).toNat + (w % 67108864).toNat)) := by
    apply BitVec.eq_of_toNat_eq
    rw [BitVec.toNat_ofInt, BitVec.toNat_ofNat]
    omega
  have e15 : BitVec.ofInt 64 1006632960 = BitVec.ofNat 64 (2 ^ 26 * 15) := by decide
  have e8 : BitVec.ofInt 64 (st % 8 * 134217728) = BitVec.ofNat 64 (2 ^ 26 * (2 * (st % 8).toNat)) := by
    apply BitVec.eq_of_toNat_eq
    rw [BitVec.toNat_ofInt, BitVec.toNat_ofNat]
    omega
  have eb : BitVec.ofInt 64 (if b then 67108864 else 0) = BitVec.ofNat 64 (2 ^ 26 * (if b then 1 else 0)) := by cases b <;> decide
  rw [ew, e15, e8, eb, mask_q _ _ _ _ _ (by omega) (by cases b <;> decide) (by omega) (by omega), BitVec.toNat_ofNat]
  unfold mvI
  cases b
  · simp only [Bool.false_eq_true, if_false]
    omega
  · simp only [if_true]
    omega
theorem mq_C {w : Int} (hw : Wd w) (st : Int) (b : Bool) : CallC Tryz.prog 117 [.int .u64 w, .int .i64 st, .bool b] ⟨[], 0, []⟩ (.int .u64 (mvI w st b)) ⟨[], 0, []⟩ := by
  have h := path Ez2ok 12 (mq_path w st b) (by simp) rfl
  rw [mvQ_eq hw] at h
  exact h
/-! All of them, as contracts -/
def gW3 (r : Int → Int → Int → Value) (args : List Value) (hp : Hp) : Option (Value × Hp × List Prop) :=
  match args with
  | [.int .u64 w, .int .i64 a, .int .i64 b] => some (r w a b, hp, [Wd w])
  | _ => none
theorem gW3_ok {r : Int → Int → Int → Value} {f : FuncId} (hent : Enters Tryz.prog f) (hn : ∀ w a b, nm (r w a b) = []) (hC : ∀ w a b, Wd w → CallC Tryz.prog f [.int .u64 w, .int .i64 a, .int .i64 b] ⟨[], 0, []⟩ (r w a b) ⟨[], 0, []⟩) :
    ∀ args hp v hp' pc, gW3 r args hp = some (v, hp', pc) → ∀ ds, CallOk Tryz.prog f args hp ⟨v, hp', ds, pc⟩ := by
  intro args hp v hp' pc hg ds
  unfold gW3 at hg
  split at hg
  · simp only [Option.some.injEq, Prod.mk.injEq] at hg
    obtain ⟨rfl, rfl, rfl⟩ := hg
    exact CallC.pure hent (fun h => hC _ _ _ (hd1 h)) rfl (hn _ _ _) hp ds
  · cases hg
def gW2 (r : Int → Int → Value) (args : List Value) (hp : Hp) : Option (Value × Hp × List Prop) :=
  match args with
  | [.int .u64 w, .int .i64 a] => some (r w a, hp, [Wd w])
  | _ => none
theorem gW2_ok {r : Int → Int → Value} {f : FuncId} (hent : Enters Tryz.prog f) (hn : ∀ w a, nm (r w a) = []) (hC : ∀ w a, Wd w → CallC Tryz.prog f [.int .u64 w, .int .i64 a] ⟨[], 0, []⟩ (r w a) ⟨[], 0, []⟩) :
    ∀ args hp v hp' pc, gW2 r args hp = some (v, hp', pc) → ∀ ds, CallOk Tryz.prog f args hp ⟨v, hp', ds, pc⟩ := by
  intro args hp v hp' pc hg ds
  unfold gW2 at hg
  split at hg
  · simp only [Option.some.injEq, Prod.mk.injEq] at hg
    obtain ⟨rfl, rfl, rfl⟩ := hg
    exact CallC.pure hent (fun h => hC _ _ (hd1 h)) rfl (hn _ _) hp ds
  · cases hg
def gW1 (r : Int → Value) (args : List Value) (hp : Hp) : Option (Value × Hp × List Prop) :=
  match args with
  | [.int .u64 w] => some (r w, hp, [Wd w])
  | _ => none
theorem gW1_ok {r : Int → Value} {f : FuncId} (hent : Enters Tryz.prog f) (hn : ∀ w, nm (r w) = []) (hC : ∀ w, Wd w → CallC Tryz.prog f [.int .u64 w] ⟨[], 0, []⟩ (r w) ⟨[], 0, []⟩) :
    ∀ args hp v hp' pc, gW1 r args hp = some (v, hp', pc) → ∀ ds, CallOk Tryz.prog f args hp ⟨v, hp', ds, pc⟩ := by
  intro args hp v hp' pc hg ds
  unfold gW1 at hg
  split at hg
  · simp only [Option.some.injEq, Prod.mk.injEq] at hg
    obtain ⟨rfl, rfl, rfl⟩ := hg
    exact CallC.pure hent (fun h => hC _ (hd1 h)) rfl (hn _) hp ds
  · cases hg
def gWm (r : Int → Int → Bool → Value) (args : List Value) (hp : Hp) : Option (Value × Hp × List Prop) :=
  match args with
  | [.int .u64 w, .int .i64 a, .bool b] => some (r w a b, hp, [Wd w])
  | _ => none
theorem gWm_ok {r : Int → Int → Bool → Value} {f : FuncId} (hent : Enters Tryz.prog f) (hn : ∀ w a b, nm (r w a b) = []) (hC : ∀ w a b, Wd w → CallC Tryz.prog f [.int .u64 w, .int .i64 a, .bool b] ⟨[], 0, []⟩ (r w a b) ⟨[], 0, []⟩) :
    ∀ args hp v hp' pc, gWm r args hp = some (v, hp', pc) → ∀ ds, CallOk Tryz.prog f args hp ⟨v, hp', ds, pc⟩ := by
  intro args hp v hp' pc hg ds
  unfold gWm at hg
  split at hg
  · simp only [Option.some.injEq, Prod.mk.injEq] at hg
    obtain ⟨rfl, rfl, rfl⟩ := hg
    exact CallC.pure hent (fun h => hC _ _ _ (hd1 h)) rfl (hn _ _ _) hp ds
  · cases hg
abbrev rHas : Int → Int → Int → Value := fun w a b => .bool (hasI w a b)
abbrev rWith : Int → Int → Int → Value := fun w a b => .int .u64 (withI w a b)
abbrev rAny : Int → Int → Value := fun w a => .bool (anyI w a)
abbrev rMv : Int → Int → Bool → Value := fun w a b => .int .u64 (mvI w a b)
abbrev rSt : Int → Value := fun w => .int .i64 (nuI w 27 3)
abbrev rBs : Int → Value := fun w => .bool (bitI w 26)
/-- The words of a status, all in the plain forms; neither a world nor a memory is made here. -/
noncomputable def E45 : Env := (((((((((((E39b.add 56 gNu).add 70 (gW3 rHas)).add 71 (gW2 rAny)).add 32 (gWm rMv)).add 19 (gW1 rSt)).add 63 (gW1 rBs)).add 189 (gW3 rWith)).add 183 (gW3 rHas)).add 184 (gW2 rAny)).add 117 (gWm rMv)).add 118 (gW1 unI))
theorem E45ok : EnvOk E45 :=
  (((((((((((E39bok.add gNu_ok).add (gW3_ok (r := rHas) (enters (fn := Tryz.f70) (by kernel_rfl) (by kernel_rfl) rfl) (fun _ _ _ => rfl) (fun _ a b h => rh_C h a b))).add (gW2_ok (r := rAny) (enters (fn := Tryz.f71) (by kernel_rfl) (by kernel_rfl) rfl) (fun _ _ => rfl) (fun _ a h => ra_C h a))).add (gWm_ok (r := rMv) (enters (fn := Tryz.f32) (by kernel_rfl) (by kernel_rfl) rfl) (fun _ _ _ => rfl) (fun _ a b h => rm_C h a b))).add
    (gW1_ok (r := rSt) (enters (fn := Tryz.f19) (by kernel_rfl) (by kernel_rfl) rfl) (fun _ => rfl) (fun _ h => st01_C h.1 h.2))).add (gW1_ok (r := rBs) (enters (fn := Tryz.f63) (by kernel_rfl) (by kernel_rfl) rfl) (fun _ => rfl) (fun w h => by have := bs1_C h; rw [bsB_eq h.1 h.2] at this; exact this))).add (gW3_ok (r := rWith) (enters (fn := Tryz.f189) (by kernel_rfl) (by kernel_rfl) rfl) (fun _ _ _ => rfl) (fun _ a b h => ws_C h a b))).add
    (gW3_ok (r := rHas) (enters (fn := Tryz.f183) (by kernel_rfl) (by kernel_rfl) rfl) (fun _ _ _ => rfl) (fun _ a b h => hs_C h a b))).add (gW2_ok (r := rAny) (enters (fn := Tryz.f184) (by kernel_rfl) (by kernel_rfl) rfl) (fun _ _ => rfl) (fun _ a h => an_C h a))).add (gWm_ok (r := rMv) (enters (fn := Tryz.f117) (by kernel_rfl) (by kernel_rfl) rfl) (fun _ _ _ => rfl) (fun _ a b h => mq_C h a b))).add
    (gW1_ok (r := unI) (enters (fn := Tryz.f118) (by kernel_rfl) (by kernel_rfl) rfl) (fun _ => rfl) (fun w h => by
      have hp := path E19ok 12 (ds := List.replicate 12 Dec.l) (pc := [(0 : Int) ≤ 30, (0 : Int) ≤ 32, (0 : Int) ≤ 27, (0 : Int) ≤ 3, (0 : Int) ≤ 26, (0 : Int) ≤ 1, (0 : Int) ≤ 25, (0 : Int) ≤ 1, (0 : Int) ≤ 24, (0 : Int) ≤ 1, (0 : Int) ≤ 12, (0 : Int) ≤ 12, (0 : Int) ≤ 0, (0 : Int) ≤ 12]) (show callR E19 12 118 [.int .u64 w] ⟨[], 0, []⟩ _ [] = some (unB w, _, _) by kernel_rfl) (by simp) rfl
      rw [unB_eq h] at hp
      exact hp)))
end Go.Proofs.YtocfhiafegkfkaaGreat.Ct
