/- A write, on to the end. -/
import Derived.Test.YtocfhiafegkfkaaGreatCtWriteE
import Derived.Test.YtocfhiafegkfkaaGreatCtWriteD
import Derived.Test.YtocfhiafegkfkaaGreatCtRdM
namespace Go.Proofs.YtocfhiafegkfkaaGreat.Ct
open Go Go.Proofs Go.Proofs.YtocfhiafegkfkaaGreat.Ev
open Go.RowKit

/-- How its others stand, while it lays conflicts to them. -/
def oaq (oa q : Nat) : Prop := (oa = 1 ∧ q = 3) ∨ (oa = 2 ∧ (q = 3 ∨ q = 4))
def Wt.place (r : Wt) : Prop := (r.ph ≤ 1 ∧ r.q = 1 ∧ r.ra = 0 ∧ r.oa = 0) ∨ ((r.ph = 2 ∨ r.ph = 5) ∧ r.q = 1 ∧ (r.ra = 0 ∨ r.ra = 2) ∧ r.oa = 0) ∨ ((r.ph = 3 ∨ r.ph = 4) ∧ r.q = 1 ∧ (r.ra = 1 ∨ r.ra = 2) ∧ r.oa = 0) ∨ (r.ph = 6 ∧ (r.ra = 0 ∨ r.ra = 2) ∧ oaq r.oa r.q) ∨ (r.ph = 7 ∧ r.q = 4 ∧ (r.ra = 0 ∨ r.ra = 2) ∧ (r.oa = 1 ∨ r.oa = 2)) ∨ ((r.ph = 8 ∨ r.ph = 9) ∧ ((r.q = 2 ∧ r.oa = 0 ∧ (r.ra = 0 ∨ r.ra = 1 ∨ r.ra = 2)) ∨ ((r.ra = 0 ∨ r.ra = 2) ∧ oaq r.oa r.q))) ∨ (r.ph = 9 ∧ r.q ≤ 1 ∧ r.ra = 0 ∧ r.oa = 0)
/-- How a row stands. -/
def rowOk (a k n : Nat) (l : List Int) : Prop := l.length ≤ 12 ∧ ((a = 1 ∧ 0 < l.length) ∨ (a = 2 ∧ 0 < n ∧ k + 1 + n = l.length))
structure Wt.good (r : Wt) : Prop where
  pl : r.place
  w : Wd r.w
  en : r.ph = 0 → Wd r.en.s ∧ Wd r.en.h
  j : r.ph = 6 → Wd r.j.s ∧ (r.j.fn = lookF ∨ r.j.fn = numF ∨ r.j.fn = layF)
  o : r.ph = 7 → Wd r.o.s
  lv : r.ph = 8 → Wd r.lv.s
  rl : r.ph = 3 ∨ r.ph = 4 → rowOk r.ra r.rk r.rn r.l
  ol : r.ph = 6 ∨ r.ph = 7 → rowOk r.oa r.ok r.on r.r
def wrGood (r : Wt) (m : Mm) : Prop := m.ok ∧ WfW m.w ∧ r.good
theorem len_pos {k : Nat} (h : 0 < k) : decide ((k : Int) > 0) = true ∧ ((k : Int) == 0) = false := ⟨decide_eq_true (by omega), beq_false_of_ne (by omega)⟩
theorem len_zero {k : Nat} (h : k = 0) : decide ((k : Int) > 0) = false ∧ ((k : Int) == 0) = true := by subst h; exact ⟨rfl, rfl⟩
theorem len_ne {l : List Int} (h : ¬ l = []) : ¬ l.length = 0 := fun e => h (List.length_eq_zero_iff.1 e)
section
variable {key slot n w no told : Int} {rk rn ok on : Nat} {en : Et} {j : Jn} {o : On} {lv : Lv} {l r : List Int} {m : Mm}
theorem ws_0 (ho : m.ok) (hw : WfW m.w) (g1 : Wd en.s) (g2 : Wd en.h) : wrOut ⟨0, 1, key, slot, n, w, no, told, 0, rk, rn, 0, ok, on, en, j, o, lv, l, r⟩ m (wrSt ⟨0, 1, key, slot, n, w, no, told, 0, rk, rn, 0, ok, on, en, j, o, lv, l, r⟩ m) (wrMe ⟨0, 1, key, slot, n, w, no, told, 0, rk, rn, 0, ok, on, en, j, o, lv, l, r⟩ m) := by
  have hE : T0 (enGood en.w2 m) := ⟨rfl, ho, hw, g1, g2, by show 1 ≤ 1000; omega⟩
  have hh : T0 (Wd (enSt en.w2 m).h) := ⟨rfl, by rw [(enSt_s hE.2).2]; exact g2⟩
  have e0 : wrSt ⟨0, 1, key, slot, n, w, no, told, 0, rk, rn, 0, ok, on, en, j, o, lv, l, r⟩ m = wrEnter ⟨0, 1, key, slot, n, w, no, told, 0, rk, rn, 0, ok, on, en, j, o, lv, l, r⟩ (enSt en.w2 m) (enMe en.w2 m) := rfl
  rw [e0]
  cases hd : ((enSt en.w2 m).dn || !ofOk (enSt en.w2 m).h (enMe en.w2 m).c.s) with
  | false =>
    have e1 : wrEnter ⟨0, 1, key, slot, n, w, no, told, 0, rk, rn, 0, ok, on, en, j, o, lv, l, r⟩ (enSt en.w2 m) (enMe en.w2 m) = ⟨0, 1, key, slot, n, w, no, told, 0, rk, rn, 0, ok, on, (enSt en.w2 m).et, j, o, lv, l, r⟩ := by
      simp only [wrEnter, hd, Bool.false_eq_true, if_false]
    rw [e1]
    exact wo_e_t _ _ _ _ _ _ _ _ _ _ _ _ _ _ _ _ _ (pcs_of ⟨rfl, hE, rfl, hh, by rw [hd]; rfl, trivial⟩)
  | true =>
    by_cases he : (errI (enSt en.w2 m) (enMe en.w2 m) != 0) = true
    · have e1 : wrEnter ⟨0, 1, key, slot, n, w, no, told, 0, rk, rn, 0, ok, on, en, j, o, lv, l, r⟩ (enSt en.w2 m) (enMe en.w2 m) = ⟨9, 1, key, slot, n, w, errI (enSt en.w2 m) (enMe en.w2 m), told, 0, rk, rn, 0, ok, on, (enSt en.w2 m).et, j, o, lv, l, r⟩ := by
        simp only [wrEnter, hd, he, if_true]
      rw [e1]
      exact wo_e_ft _ _ _ _ _ _ _ _ _ _ _ _ _ _ _ _ _ (pcs_of ⟨rfl, hE, rfl, hh, by rw [hd]; rfl, rfl, hh, he, trivial⟩)
    · have he := eq_false_of_ne_true he
      have e1 : wrEnter ⟨0, 1, key, slot, n, w, no, told, 0, rk, rn, 0, ok, on, en, j, o, lv, l, r⟩ (enSt en.w2 m) (enMe en.w2 m) = ⟨1, 1, key, slot, n, w, errI (enSt en.w2 m) (enMe en.w2 m), told, 0, rk, rn, 0, ok, on, (enSt en.w2 m).et, j, o, lv, l, r⟩ := by
        simp only [wrEnter, hd, he, if_true, Bool.false_eq_true, if_false]
      rw [e1]
      exact wo_e_ff _ _ _ _ _ _ _ _ _ _ _ _ _ _ _ _ _ (pcs_of ⟨rfl, hE, rfl, hh, by rw [hd]; rfl, rfl, hh, he, trivial⟩)
theorem ws_20 (ho : m.ok) (hw : WfW m.w) : wrOut ⟨2, 1, key, slot, n, w, no, told, 0, rk, rn, 0, ok, on, en, j, o, lv, l, r⟩ m (wrSt ⟨2, 1, key, slot, n, w, no, told, 0, rk, rn, 0, ok, on, en, j, o, lv, l, r⟩ m) (wrMe ⟨2, 1, key, slot, n, w, no, told, 0, rk, rn, 0, ok, on, en, j, o, lv, l, r⟩ m) := by
  have hv : Wd (vAt m 8 key) := hw.getW _
  by_cases hL : othL (vAt m 8 key) 1 slot = []
  · cases hh : hasI (vAt m 8 key) 1 slot with
    | false =>
      have e1 : wrSt ⟨2, 1, key, slot, n, w, no, told, 0, rk, rn, 0, ok, on, en, j, o, lv, l, r⟩ m = ⟨5, 1, key, slot, n, (vAt m 8 key), no, told, 0, rk, rn, 0, ok, on, en, j, o, lv, (othL (vAt m 8 key) 1 slot), r⟩ := by
        show wrLook ⟨2, 1, key, slot, n, w, no, told, 0, rk, rn, 0, ok, on, en, j, o, lv, l, r⟩ (vAt m 8 key) = _
        simp only [wrLook, Wt.goes, Wt.clear, Wt.found, Wt.ends, Wt.goto, rdO, lenS, qe, qj, hL, hh, if_true, Bool.false_eq_true, if_false]
      rw [e1]
      exact wo_l0_m _ _ _ _ _ _ _ _ _ _ _ _ _ _ _ _ _ (pcs_of ⟨ho, ⟨hv, hL⟩, hv, hh, trivial⟩)
    | true =>
      by_cases hO : othL (vAt m 8 key) 0 slot = []
      · have e1 : wrSt ⟨2, 1, key, slot, n, w, no, told, 0, rk, rn, 0, ok, on, en, j, o, lv, l, r⟩ m = ⟨8, 2, key, slot, n, (vAt m 8 key), no, 0, 0, rk, rn, 0, ok, on, en, j, o, ⟨slot, 0, -1, false, false⟩, (othL (vAt m 8 key) 1 slot), r⟩ := by
          show wrLook ⟨2, 1, key, slot, n, w, no, told, 0, rk, rn, 0, ok, on, en, j, o, lv, l, r⟩ (vAt m 8 key) = _
          simp only [wrLook, Wt.goes, Wt.clear, Wt.found, Wt.ends, Wt.goto, rdO, lenS, qe, qj, hL, hh, if_true, hO, if_true]
        rw [e1]
        exact wo_l0_n _ _ _ _ _ _ _ _ _ _ _ _ _ _ _ _ _ (pcs_of ⟨ho, ⟨hv, hL⟩, hv, hh, ⟨hv, hO⟩, trivial⟩)
      · have e1 : wrSt ⟨2, 1, key, slot, n, w, no, told, 0, rk, rn, 0, ok, on, en, j, o, lv, l, r⟩ m = ⟨6, 3, key, slot, n, (vAt m 8 key), no, told, 0, rk, rn, 1, ok, on, en, rdJoin ((othL (vAt m 8 key) 0 slot).getD 0 0) 0 slot n, o, lv, (othL (vAt m 8 key) 1 slot), (othL (vAt m 8 key) 0 slot)⟩ := by
          show wrLook ⟨2, 1, key, slot, n, w, no, told, 0, rk, rn, 0, ok, on, en, j, o, lv, l, r⟩ (vAt m 8 key) = _
          simp only [wrLook, Wt.goes, Wt.clear, Wt.found, Wt.ends, Wt.goto, rdO, lenS, qe, qj, hL, hh, if_true, hO, if_false]
        rw [e1]
        have hp := getD_nil hO
        exact wo_l0_o _ _ _ _ _ _ _ _ _ _ _ _ _ _ _ _ _ (pcs_of ⟨ho, ⟨hv, hL⟩, hv, hh, ⟨hv, hO⟩, (len_pos hp).2, Int.le_refl _, by omega, hp, trivial⟩)
  · have hp := getD_nil hL
    have hl0 := len_ne hL
    have e1 : wrSt ⟨2, 1, key, slot, n, w, no, told, 0, rk, rn, 0, ok, on, en, j, o, lv, l, r⟩ m = ⟨3, 1, key, slot, n, (vAt m 8 key), no, told, 1, rk, rn, 0, ok, on, en, j, o, lv, (othL (vAt m 8 key) 1 slot), r⟩ := by
      show wrLook ⟨2, 1, key, slot, n, w, no, told, 0, rk, rn, 0, ok, on, en, j, o, lv, l, r⟩ (vAt m 8 key) = _
      simp only [wrLook, Wt.goes, Wt.clear, Wt.found, Wt.ends, Wt.goto, rdO, lenS, qe, qj, hL, hl0, if_false]
    rw [e1]
    exact wo_l0_g _ _ _ _ _ _ _ _ _ _ _ _ _ _ _ _ _ (pcs_of ⟨ho, ⟨hv, hL⟩, (len_pos hp).1, (len_pos hp).2, trivial⟩)
theorem ws_22 (ho : m.ok) (hw : WfW m.w) : wrOut ⟨2, 1, key, slot, n, w, no, told, 2, rk, rn, 0, ok, on, en, j, o, lv, l, r⟩ m (wrSt ⟨2, 1, key, slot, n, w, no, told, 2, rk, rn, 0, ok, on, en, j, o, lv, l, r⟩ m) (wrMe ⟨2, 1, key, slot, n, w, no, told, 2, rk, rn, 0, ok, on, en, j, o, lv, l, r⟩ m) := by
  have hv : Wd (vAt m 8 key) := hw.getW _
  by_cases hL : othL (vAt m 8 key) 1 slot = []
  · cases hh : hasI (vAt m 8 key) 1 slot with
    | false =>
      have e1 : wrSt ⟨2, 1, key, slot, n, w, no, told, 2, rk, rn, 0, ok, on, en, j, o, lv, l, r⟩ m = ⟨5, 1, key, slot, n, (vAt m 8 key), no, told, 0, rk, rn, 0, ok, on, en, j, o, lv, (othL (vAt m 8 key) 1 slot), r⟩ := by
        show wrLook ⟨2, 1, key, slot, n, w, no, told, 2, rk, rn, 0, ok, on, en, j, o, lv, l, r⟩ (vAt m 8 key) = _
        simp only [wrLook, Wt.goes, Wt.clear, Wt.found, Wt.ends, Wt.goto, rdO, lenS, qe, qj, hL, hh, if_true, Bool.false_eq_true, if_false]
      rw [e1]
      exact wo_l2_m _ _ _ _ _ _ _ _ _ _ _ _ _ _ _ _ _ (pcs_of ⟨ho, ⟨hv, hL⟩, hv, hh, trivial⟩)
    | true =>
      by_cases hO : othL (vAt m 8 key) 0 slot = []
      · have e1 : wrSt ⟨2, 1, key, slot, n, w, no, told, 2, rk, rn, 0, ok, on, en, j, o, lv, l, r⟩ m = ⟨8, 2, key, slot, n, (vAt m 8 key), no, 0, 0, rk, rn, 0, ok, on, en, j, o, ⟨slot, 0, -1, false, false⟩, (othL (vAt m 8 key) 1 slot), r⟩ := by
          show wrLook ⟨2, 1, key, slot, n, w, no, told, 2, rk, rn, 0, ok, on, en, j, o, lv, l, r⟩ (vAt m 8 key) = _
          simp only [wrLook, Wt.goes, Wt.clear, Wt.found, Wt.ends, Wt.goto, rdO, lenS, qe, qj, hL, hh, if_true, hO, if_true]
        rw [e1]
        exact wo_l2_n _ _ _ _ _ _ _ _ _ _ _ _ _ _ _ _ _ (pcs_of ⟨ho, ⟨hv, hL⟩, hv, hh, ⟨hv, hO⟩, trivial⟩)
      · have e1 : wrSt ⟨2, 1, key, slot, n, w, no, told, 2, rk, rn, 0, ok, on, en, j, o, lv, l, r⟩ m = ⟨6, 3, key, slot, n, (vAt m 8 key), no, told, 0, rk, rn, 1, ok, on, en, rdJoin ((othL (vAt m 8 key) 0 slot).getD 0 0) 0 slot n, o, lv, (othL (vAt m 8 key) 1 slot), (othL (vAt m 8 key) 0 slot)⟩ := by
          show wrLook ⟨2, 1, key, slot, n, w, no, told, 2, rk, rn, 0, ok, on, en, j, o, lv, l, r⟩ (vAt m 8 key) = _
          simp only [wrLook, Wt.goes, Wt.clear, Wt.found, Wt.ends, Wt.goto, rdO, lenS, qe, qj, hL, hh, if_true, hO, if_false]
        rw [e1]
        have hp := getD_nil hO
        exact wo_l2_o _ _ _ _ _ _ _ _ _ _ _ _ _ _ _ _ _ (pcs_of ⟨ho, ⟨hv, hL⟩, hv, hh, ⟨hv, hO⟩, (len_pos hp).2, Int.le_refl _, by omega, hp, trivial⟩)
  · have hp := getD_nil hL
    have hl0 := len_ne hL
    have e1 : wrSt ⟨2, 1, key, slot, n, w, no, told, 2, rk, rn, 0, ok, on, en, j, o, lv, l, r⟩ m = ⟨3, 1, key, slot, n, (vAt m 8 key), no, told, 1, rk, rn, 0, ok, on, en, j, o, lv, (othL (vAt m 8 key) 1 slot), r⟩ := by
      show wrLook ⟨2, 1, key, slot, n, w, no, told, 2, rk, rn, 0, ok, on, en, j, o, lv, l, r⟩ (vAt m 8 key) = _
      simp only [wrLook, Wt.goes, Wt.clear, Wt.found, Wt.ends, Wt.goto, rdO, lenS, qe, qj, hL, hl0, if_false]
    rw [e1]
    exact wo_l2_g _ _ _ _ _ _ _ _ _ _ _ _ _ _ _ _ _ (pcs_of ⟨ho, ⟨hv, hL⟩, (len_pos hp).1, (len_pos hp).2, trivial⟩)
theorem ws_31 (ho : m.ok) (hw : WfW m.w) (gw : Wd w) (hl : 0 < l.length) : wrOut ⟨3, 1, key, slot, n, w, no, told, 1, rk, rn, 0, ok, on, en, j, o, lv, l, r⟩ m (wrSt ⟨3, 1, key, slot, n, w, no, told, 1, rk, rn, 0, ok, on, en, j, o, lv, l, r⟩ m) (wrMe ⟨3, 1, key, slot, n, w, no, told, 1, rk, rn, 0, ok, on, en, j, o, lv, l, r⟩ m) := by
  have hs : Wd (vAt m 4 (l.getD 0 0)) := hw.getW _
  cases h2 : (nuI (vAt m 4 (l.getD 0 0)) 27 3 == 2) with
  | true =>
    have e1 : wrSt ⟨3, 1, key, slot, n, w, no, told, 1, rk, rn, 0, ok, on, en, j, o, lv, l, r⟩ m = ⟨8, 2, key, slot, n, w, no, 8, 1, rk, rn, 0, ok, on, en, j, o, ⟨slot, 0, 5, false, false⟩, l, r⟩ := by
      show wrRival ⟨3, 1, key, slot, n, w, no, told, 1, rk, rn, 0, ok, on, en, j, o, lv, l, r⟩ (vAt m 4 (l.getD 0 0)) = _
      simp only [wrRival, h2, if_true, Wt.ends, qe]
    rw [e1]
    exact wo_v1_2 _ _ _ _ _ _ _ _ _ _ _ _ _ _ _ _ _ (pcs_of ⟨Int.le_refl _, by omega, hl, ho, hs, h2, h2, trivial⟩)
  | false =>
    cases h3 : (nuI (vAt m 4 (l.getD 0 0)) 27 3 == 3) with
    | true =>
      have e1 : wrSt ⟨3, 1, key, slot, n, w, no, told, 1, rk, rn, 0, ok, on, en, j, o, lv, l, r⟩ m = ⟨8, 2, key, slot, n, w, no, 8, 1, rk, rn, 0, ok, on, en, j, o, ⟨slot, 0, 5, false, false⟩, l, r⟩ := by
        show wrRival ⟨3, 1, key, slot, n, w, no, told, 1, rk, rn, 0, ok, on, en, j, o, lv, l, r⟩ (vAt m 4 (l.getD 0 0)) = _
        simp only [wrRival, h2, h3, if_true, Bool.false_eq_true, if_false, Wt.ends, qe]
      rw [e1]
      exact wo_v1_3 _ _ _ _ _ _ _ _ _ _ _ _ _ _ _ _ _ (pcs_of ⟨Int.le_refl _, by omega, hl, ho, hs, h2, h3, trivial⟩)
    | false =>
      cases h4 : (nuI (vAt m 4 (l.getD 0 0)) 27 3 == 4) with
      | true =>
        have e1 : wrSt ⟨3, 1, key, slot, n, w, no, told, 1, rk, rn, 0, ok, on, en, j, o, lv, l, r⟩ m = ⟨4, 1, key, slot, n, w, no, told, 1, rk, rn, 0, ok, on, en, j, o, lv, l, r⟩ := by
          show wrRival ⟨3, 1, key, slot, n, w, no, told, 1, rk, rn, 0, ok, on, en, j, o, lv, l, r⟩ (vAt m 4 (l.getD 0 0)) = _
          simp only [wrRival, h2, h3, h4, if_true, Bool.false_eq_true, if_false, Wt.goto]
        rw [e1]
        exact wo_v1_4 _ _ _ _ _ _ _ _ _ _ _ _ _ _ _ _ _ (pcs_of ⟨Int.le_refl _, by omega, hl, ho, hs, h2, h3, h4, trivial⟩)
      | false =>
      by_cases hz : l.length - 1 = 0
      · have hz' : l.length - 1 = 0 := by omega
        cases hh : hasI w 1 slot with
        | false =>
          have e1 : wrSt ⟨3, 1, key, slot, n, w, no, told, 1, rk, rn, 0, ok, on, en, j, o, lv, l, r⟩ m = ⟨5, 1, key, slot, n, w, no, told, 2, 0, (l.length - 1), 0, ok, on, en, j, o, lv, l, r⟩ := by
            show wrRival ⟨3, 1, key, slot, n, w, no, told, 1, rk, rn, 0, ok, on, en, j, o, lv, l, r⟩ (vAt m 4 (l.getD 0 0)) = _
            simp only [wrRival, h2, h3, h4, Bool.false_eq_true, Wt.passes, Wt.goes, Wt.clear, Wt.found, Wt.ends, Wt.goto, rdO, lenS, nxtS, qe, qj, hz, hh, if_true, Bool.false_eq_true, if_false]
          rw [e1]
          exact wo_v1_m _ _ _ _ _ _ _ _ _ _ _ _ _ _ _ _ _ (pcs_of ⟨Int.le_refl _, by omega, hl, ho, hs, h2, h3, h4, by omega, Nat.le_refl _, (len_zero hz').1, (len_zero hz').2, gw, hh, trivial⟩)
        | true =>
          by_cases hO : othL w 0 slot = []
          · have e1 : wrSt ⟨3, 1, key, slot, n, w, no, told, 1, rk, rn, 0, ok, on, en, j, o, lv, l, r⟩ m = ⟨8, 2, key, slot, n, w, no, 0, 2, 0, (l.length - 1), 0, ok, on, en, j, o, ⟨slot, 0, -1, false, false⟩, l, r⟩ := by
              show wrRival ⟨3, 1, key, slot, n, w, no, told, 1, rk, rn, 0, ok, on, en, j, o, lv, l, r⟩ (vAt m 4 (l.getD 0 0)) = _
              simp only [wrRival, h2, h3, h4, Bool.false_eq_true, Wt.passes, Wt.goes, Wt.clear, Wt.found, Wt.ends, Wt.goto, rdO, lenS, nxtS, qe, qj, hz, hh, if_true, hO, if_true, if_false]
            rw [e1]
            exact wo_v1_n _ _ _ _ _ _ _ _ _ _ _ _ _ _ _ _ _ (pcs_of ⟨Int.le_refl _, by omega, hl, ho, hs, h2, h3, h4, by omega, Nat.le_refl _, (len_zero hz').1, (len_zero hz').2, gw, hh, ⟨gw, hO⟩, trivial⟩)
          · have e1 : wrSt ⟨3, 1, key, slot, n, w, no, told, 1, rk, rn, 0, ok, on, en, j, o, lv, l, r⟩ m = ⟨6, 3, key, slot, n, w, no, told, 2, 0, (l.length - 1), 1, ok, on, en, rdJoin ((othL w 0 slot).getD 0 0) 0 slot n, o, lv, l, (othL w 0 slot)⟩ := by
              show wrRival ⟨3, 1, key, slot, n, w, no, told, 1, rk, rn, 0, ok, on, en, j, o, lv, l, r⟩ (vAt m 4 (l.getD 0 0)) = _
              simp only [wrRival, h2, h3, h4, Bool.false_eq_true, Wt.passes, Wt.goes, Wt.clear, Wt.found, Wt.ends, Wt.goto, rdO, lenS, nxtS, qe, qj, hz, hh, if_true, hO, if_false]
            rw [e1]
            have hp := getD_nil hO
            exact wo_v1_o _ _ _ _ _ _ _ _ _ _ _ _ _ _ _ _ _ (pcs_of ⟨Int.le_refl _, by omega, hl, ho, hs, h2, h3, h4, by omega, Nat.le_refl _, (len_zero hz').1, (len_zero hz').2, gw, hh, ⟨gw, hO⟩, (len_pos hp).2, Int.le_refl _, by omega, hp, trivial⟩)
      · have hz' : 0 < l.length - 1 := by omega
        have e1 : wrSt ⟨3, 1, key, slot, n, w, no, told, 1, rk, rn, 0, ok, on, en, j, o, lv, l, r⟩ m = ⟨3, 1, key, slot, n, w, no, told, 2, 0, (l.length - 1), 0, ok, on, en, j, o, lv, l, r⟩ := by
          show wrRival ⟨3, 1, key, slot, n, w, no, told, 1, rk, rn, 0, ok, on, en, j, o, lv, l, r⟩ (vAt m 4 (l.getD 0 0)) = _
          simp only [wrRival, h2, h3, h4, Bool.false_eq_true, Wt.passes, Wt.goes, Wt.clear, Wt.found, Wt.ends, Wt.goto, rdO, lenS, nxtS, qe, qj, hz, if_false]
        rw [e1]
        exact wo_v1_g _ _ _ _ _ _ _ _ _ _ _ _ _ _ _ _ _ (pcs_of ⟨Int.le_refl _, by omega, hl, ho, hs, h2, h3, h4, by omega, Nat.le_refl _, (len_pos hz').1, (len_pos hz').2, trivial⟩)
theorem ws_41 (ho : m.ok) (hw : WfW m.w) (gw : Wd w) (hl : 0 < l.length) : wrOut ⟨4, 1, key, slot, n, w, no, told, 1, rk, rn, 0, ok, on, en, j, o, lv, l, r⟩ m (wrSt ⟨4, 1, key, slot, n, w, no, told, 1, rk, rn, 0, ok, on, en, j, o, lv, l, r⟩ m) (wrMe ⟨4, 1, key, slot, n, w, no, told, 1, rk, rn, 0, ok, on, en, j, o, lv, l, r⟩ m) := by
  have hs : Wd (vAt m 6 (l.getD 0 0)) := hw.getW _
  cases hpa : pastI (vAt m 6 (l.getD 0 0)) n with
  | false =>
    have e1 : wrSt ⟨4, 1, key, slot, n, w, no, told, 1, rk, rn, 0, ok, on, en, j, o, lv, l, r⟩ m = ⟨8, 2, key, slot, n, w, no, 8, 1, rk, rn, 0, ok, on, en, j, o, ⟨slot, 0, 5, false, false⟩, l, r⟩ := by
      show (if pastI (vAt m 6 (l.getD 0 0)) n = true then Wt.passes ⟨4, 1, key, slot, n, w, no, told, 1, rk, rn, 0, ok, on, en, j, o, lv, l, r⟩ else Wt.ends ⟨4, 1, key, slot, n, w, no, told, 1, rk, rn, 0, ok, on, en, j, o, lv, l, r⟩ 5 8) = _
      simp only [hpa, Bool.false_eq_true, if_false, Wt.ends, qe]
    rw [e1]
    exact wo_u1_x _ _ _ _ _ _ _ _ _ _ _ _ _ _ _ _ _ (pcs_of ⟨Int.le_refl _, by omega, hl, ho, hs, hpa, trivial⟩)
  | true =>
    by_cases hz : l.length - 1 = 0
    · have hz' : l.length - 1 = 0 := by omega
      cases hh : hasI w 1 slot with
      | false =>
        have e1 : wrSt ⟨4, 1, key, slot, n, w, no, told, 1, rk, rn, 0, ok, on, en, j, o, lv, l, r⟩ m = ⟨5, 1, key, slot, n, w, no, told, 2, 0, (l.length - 1), 0, ok, on, en, j, o, lv, l, r⟩ := by
          show (if pastI (vAt m 6 (l.getD 0 0)) n = true then Wt.passes ⟨4, 1, key, slot, n, w, no, told, 1, rk, rn, 0, ok, on, en, j, o, lv, l, r⟩ else Wt.ends ⟨4, 1, key, slot, n, w, no, told, 1, rk, rn, 0, ok, on, en, j, o, lv, l, r⟩ 5 8) = _
          simp only [hpa, Wt.passes, Wt.goes, Wt.clear, Wt.found, Wt.ends, Wt.goto, rdO, lenS, nxtS, qe, qj, hz, hh, if_true, Bool.false_eq_true, if_false]
        rw [e1]
        exact wo_u1_m _ _ _ _ _ _ _ _ _ _ _ _ _ _ _ _ _ (pcs_of ⟨Int.le_refl _, by omega, hl, ho, hs, hpa, by omega, Nat.le_refl _, (len_zero hz').1, (len_zero hz').2, gw, hh, trivial⟩)
      | true =>
        by_cases hO : othL w 0 slot = []
        · have e1 : wrSt ⟨4, 1, key, slot, n, w, no, told, 1, rk, rn, 0, ok, on, en, j, o, lv, l, r⟩ m = ⟨8, 2, key, slot, n, w, no, 0, 2, 0, (l.length - 1), 0, ok, on, en, j, o, ⟨slot, 0, -1, false, false⟩, l, r⟩ := by
            show (if pastI (vAt m 6 (l.getD 0 0)) n = true then Wt.passes ⟨4, 1, key, slot, n, w, no, told, 1, rk, rn, 0, ok, on, en, j, o, lv, l, r⟩ else Wt.ends ⟨4, 1, key, slot, n, w, no, told, 1, rk, rn, 0, ok, on, en, j, o, lv, l, r⟩ 5 8) = _
            simp only [hpa, Wt.passes, Wt.goes, Wt.clear, Wt.found, Wt.ends, Wt.goto, rdO, lenS, nxtS, qe, qj, hz, hh, if_true, hO, if_true]
          rw [e1]
          exact wo_u1_n _ _ _ _ _ _ _ _ _ _ _ _ _ _ _ _ _ (pcs_of ⟨Int.le_refl _, by omega, hl, ho, hs, hpa, by omega, Nat.le_refl _, (len_zero hz').1, (len_zero hz').2, gw, hh, ⟨gw, hO⟩, trivial⟩)
        · have e1 : wrSt ⟨4, 1, key, slot, n, w, no, told, 1, rk, rn, 0, ok, on, en, j, o, lv, l, r⟩ m = ⟨6, 3, key, slot, n, w, no, told, 2, 0, (l.length - 1), 1, ok, on, en, rdJoin ((othL w 0 slot).getD 0 0) 0 slot n, o, lv, l, (othL w 0 slot)⟩ := by
            show (if pastI (vAt m 6 (l.getD 0 0)) n = true then Wt.passes ⟨4, 1, key, slot, n, w, no, told, 1, rk, rn, 0, ok, on, en, j, o, lv, l, r⟩ else Wt.ends ⟨4, 1, key, slot, n, w, no, told, 1, rk, rn, 0, ok, on, en, j, o, lv, l, r⟩ 5 8) = _
            simp only [hpa, Wt.passes, Wt.goes, Wt.clear, Wt.found, Wt.ends, Wt.goto, rdO, lenS, nxtS, qe, qj, hz, hh, if_true, hO, if_false]
          rw [e1]
          have hp := getD_nil hO
          exact wo_u1_o _ _ _ _ _ _ _ _ _ _ _ _ _ _ _ _ _ (pcs_of ⟨Int.le_refl _, by omega, hl, ho, hs, hpa, by omega, Nat.le_refl _, (len_zero hz').1, (len_zero hz').2, gw, hh, ⟨gw, hO⟩, (len_pos hp).2, Int.le_refl _, by omega, hp, trivial⟩)
    · have hz' : 0 < l.length - 1 := by omega
      have e1 : wrSt ⟨4, 1, key, slot, n, w, no, told, 1, rk, rn, 0, ok, on, en, j, o, lv, l, r⟩ m = ⟨3, 1, key, slot, n, w, no, told, 2, 0, (l.length - 1), 0, ok, on, en, j, o, lv, l, r⟩ := by
        show (if pastI (vAt m 6 (l.getD 0 0)) n = true then Wt.passes ⟨4, 1, key, slot, n, w, no, told, 1, rk, rn, 0, ok, on, en, j, o, lv, l, r⟩ else Wt.ends ⟨4, 1, key, slot, n, w, no, told, 1, rk, rn, 0, ok, on, en, j, o, lv, l, r⟩ 5 8) = _
        simp only [hpa, Wt.passes, Wt.goes, Wt.clear, Wt.found, Wt.ends, Wt.goto, rdO, lenS, nxtS, qe, qj, hz, if_false, if_true]
      rw [e1]
      exact wo_u1_g _ _ _ _ _ _ _ _ _ _ _ _ _ _ _ _ _ (pcs_of ⟨Int.le_refl _, by omega, hl, ho, hs, hpa, by omega, Nat.le_refl _, (len_pos hz').1, (len_pos hz').2, trivial⟩)
theorem ws_32 (ho : m.ok) (hw : WfW m.w) (gw : Wd w) (hl : rk + 1 + (rn + 1) = l.length) : wrOut ⟨3, 1, key, slot, n, w, no, told, 2, rk, (rn + 1), 0, ok, on, en, j, o, lv, l, r⟩ m (wrSt ⟨3, 1, key, slot, n, w, no, told, 2, rk, (rn + 1), 0, ok, on, en, j, o, lv, l, r⟩ m) (wrMe ⟨3, 1, key, slot, n, w, no, told, 2, rk, (rn + 1), 0, ok, on, en, j, o, lv, l, r⟩ m) := by
  have hs : Wd (vAt m 4 (l.getD (rk + 1) 0)) := hw.getW _
  cases h2 : (nuI (vAt m 4 (l.getD (rk + 1) 0)) 27 3 == 2) with
  | true =>
    have e1 : wrSt ⟨3, 1, key, slot, n, w, no, told, 2, rk, (rn + 1), 0, ok, on, en, j, o, lv, l, r⟩ m = ⟨8, 2, key, slot, n, w, no, 8, 2, rk, (rn + 1), 0, ok, on, en, j, o, ⟨slot, 0, 5, false, false⟩, l, r⟩ := by
      show wrRival ⟨3, 1, key, slot, n, w, no, told, 2, rk, (rn + 1), 0, ok, on, en, j, o, lv, l, r⟩ (vAt m 4 (l.getD (rk + 1) 0)) = _
      simp only [wrRival, h2, if_true, Wt.ends, qe]
    rw [e1]
    exact wo_v2_2 _ _ _ _ _ _ _ _ _ _ _ _ _ _ _ _ _ (pcs_of ⟨Int.le_refl _, by omega, Nat.le_refl _, by omega, ho, hs, h2, h2, trivial⟩)
  | false =>
    cases h3 : (nuI (vAt m 4 (l.getD (rk + 1) 0)) 27 3 == 3) with
    | true =>
      have e1 : wrSt ⟨3, 1, key, slot, n, w, no, told, 2, rk, (rn + 1), 0, ok, on, en, j, o, lv, l, r⟩ m = ⟨8, 2, key, slot, n, w, no, 8, 2, rk, (rn + 1), 0, ok, on, en, j, o, ⟨slot, 0, 5, false, false⟩, l, r⟩ := by
        show wrRival ⟨3, 1, key, slot, n, w, no, told, 2, rk, (rn + 1), 0, ok, on, en, j, o, lv, l, r⟩ (vAt m 4 (l.getD (rk + 1) 0)) = _
        simp only [wrRival, h2, h3, if_true, Bool.false_eq_true, if_false, Wt.ends, qe]
      rw [e1]
      exact wo_v2_3 _ _ _ _ _ _ _ _ _ _ _ _ _ _ _ _ _ (pcs_of ⟨Int.le_refl _, by omega, Nat.le_refl _, by omega, ho, hs, h2, h3, trivial⟩)
    | false =>
      cases h4 : (nuI (vAt m 4 (l.getD (rk + 1) 0)) 27 3 == 4) with
      | true =>
        have e1 : wrSt ⟨3, 1, key, slot, n, w, no, told, 2, rk, (rn + 1), 0, ok, on, en, j, o, lv, l, r⟩ m = ⟨4, 1, key, slot, n, w, no, told, 2, rk, (rn + 1), 0, ok, on, en, j, o, lv, l, r⟩ := by
          show wrRival ⟨3, 1, key, slot, n, w, no, told, 2, rk, (rn + 1), 0, ok, on, en, j, o, lv, l, r⟩ (vAt m 4 (l.getD (rk + 1) 0)) = _
          simp only [wrRival, h2, h3, h4, if_true, Bool.false_eq_true, if_false, Wt.goto]
        rw [e1]
        exact wo_v2_4 _ _ _ _ _ _ _ _ _ _ _ _ _ _ _ _ _ (pcs_of ⟨Int.le_refl _, by omega, Nat.le_refl _, by omega, ho, hs, h2, h3, h4, trivial⟩)
      | false =>
      by_cases hz : rn = 0
      · have hz' : (rn + 1) - 1 = 0 := by omega
        cases hh : hasI w 1 slot with
        | false =>
          have e1 : wrSt ⟨3, 1, key, slot, n, w, no, told, 2, rk, (rn + 1), 0, ok, on, en, j, o, lv, l, r⟩ m = ⟨5, 1, key, slot, n, w, no, told, 2, (rk + 1), rn, 0, ok, on, en, j, o, lv, l, r⟩ := by
            show wrRival ⟨3, 1, key, slot, n, w, no, told, 2, rk, (rn + 1), 0, ok, on, en, j, o, lv, l, r⟩ (vAt m 4 (l.getD (rk + 1) 0)) = _
            simp only [wrRival, h2, h3, h4, Bool.false_eq_true, Wt.passes, Wt.goes, Wt.clear, Wt.found, Wt.ends, Wt.goto, rdO, lenS, nxtS, qe, qj, Nat.add_sub_cancel, hz, hh, if_true, Bool.false_eq_true, if_false]
          rw [e1]
          exact wo_v2_m _ _ _ _ _ _ _ _ _ _ _ _ _ _ _ _ _ (pcs_of ⟨Int.le_refl _, by omega, Nat.le_refl _, by omega, ho, hs, h2, h3, h4, by omega, Nat.le_refl _, (len_zero hz').1, (len_zero hz').2, gw, hh, trivial⟩)
        | true =>
          by_cases hO : othL w 0 slot = []
          · have e1 : wrSt ⟨3, 1, key, slot, n, w, no, told, 2, rk, (rn + 1), 0, ok, on, en, j, o, lv, l, r⟩ m = ⟨8, 2, key, slot, n, w, no, 0, 2, (rk + 1), rn, 0, ok, on, en, j, o, ⟨slot, 0, -1, false, false⟩, l, r⟩ := by
              show wrRival ⟨3, 1, key, slot, n, w, no, told, 2, rk, (rn + 1), 0, ok, on, en, j, o, lv, l, r⟩ (vAt m 4 (l.getD (rk + 1) 0)) = _
              simp only [wrRival, h2, h3, h4, Bool.false_eq_true, Wt.passes, Wt.goes, Wt.clear, Wt.found, Wt.ends, Wt.goto, rdO, lenS, nxtS, qe, qj, Nat.add_sub_cancel, hz, hh, if_true, hO, if_true, if_false]
            rw [e1]
            exact wo_v2_n _ _ _ _ _ _ _ _ _ _ _ _ _ _ _ _ _ (pcs_of ⟨Int.le_refl _, by omega, Nat.le_refl _, by omega, ho, hs, h2, h3, h4, by omega, Nat.le_refl _, (len_zero hz').1, (len_zero hz').2, gw, hh, ⟨gw, hO⟩, trivial⟩)
          · have e1 : wrSt ⟨3, 1, key, slot, n, w, no, told, 2, rk, (rn + 1), 0, ok, on, en, j, o, lv, l, r⟩ m = ⟨6, 3, key, slot, n, w, no, told, 2, (rk + 1), rn, 1, ok, on, en, rdJoin ((othL w 0 slot).getD 0 0) 0 slot n, o, lv, l, (othL w 0 slot)⟩ := by
              show wrRival ⟨3, 1, key, slot, n, w, no, told, 2, rk, (rn + 1), 0, ok, on, en, j, o, lv, l, r⟩ (vAt m 4 (l.getD (rk + 1) 0)) = _
              simp only [wrRival, h2, h3, h4, Bool.false_eq_true, Wt.passes, Wt.goes, Wt.clear, Wt.found, Wt.ends, Wt.goto, rdO, lenS, nxtS, qe, qj, Nat.add_sub_cancel, hz, hh, if_true, hO, if_false]
            rw [e1]
            have hp := getD_nil hO
            exact wo_v2_o _ _ _ _ _ _ _ _ _ _ _ _ _ _ _ _ _ (pcs_of ⟨Int.le_refl _, by omega, Nat.le_refl _, by omega, ho, hs, h2, h3, h4, by omega, Nat.le_refl _, (len_zero hz').1, (len_zero hz').2, gw, hh, ⟨gw, hO⟩, (len_pos hp).2, Int.le_refl _, by omega, hp, trivial⟩)
      · have hz' : 0 < (rn + 1) - 1 := by omega
        have e1 : wrSt ⟨3, 1, key, slot, n, w, no, told, 2, rk, (rn + 1), 0, ok, on, en, j, o, lv, l, r⟩ m = ⟨3, 1, key, slot, n, w, no, told, 2, (rk + 1), rn, 0, ok, on, en, j, o, lv, l, r⟩ := by
          show wrRival ⟨3, 1, key, slot, n, w, no, told, 2, rk, (rn + 1), 0, ok, on, en, j, o, lv, l, r⟩ (vAt m 4 (l.getD (rk + 1) 0)) = _
          simp only [wrRival, h2, h3, h4, Bool.false_eq_true, Wt.passes, Wt.goes, Wt.clear, Wt.found, Wt.ends, Wt.goto, rdO, lenS, nxtS, qe, qj, Nat.add_sub_cancel, hz, if_false]
        rw [e1]
        exact wo_v2_g _ _ _ _ _ _ _ _ _ _ _ _ _ _ _ _ _ (pcs_of ⟨Int.le_refl _, by omega, Nat.le_refl _, by omega, ho, hs, h2, h3, h4, by omega, Nat.le_refl _, (len_pos hz').1, (len_pos hz').2, trivial⟩)
theorem ws_42 (ho : m.ok) (hw : WfW m.w) (gw : Wd w) (hl : rk + 1 + (rn + 1) = l.length) : wrOut ⟨4, 1, key, slot, n, w, no, told, 2, rk, (rn + 1), 0, ok, on, en, j, o, lv, l, r⟩ m (wrSt ⟨4, 1, key, slot, n, w, no, told, 2, rk, (rn + 1), 0, ok, on, en, j, o, lv, l, r⟩ m) (wrMe ⟨4, 1, key, slot, n, w, no, told, 2, rk, (rn + 1), 0, ok, on, en, j, o, lv, l, r⟩ m) := by
  have hs : Wd (vAt m 6 (l.getD (rk + 1) 0)) := hw.getW _
  cases hpa : pastI (vAt m 6 (l.getD (rk + 1) 0)) n with
  | false =>
    have e1 : wrSt ⟨4, 1, key, slot, n, w, no, told, 2, rk, (rn + 1), 0, ok, on, en, j, o, lv, l, r⟩ m = ⟨8, 2, key, slot, n, w, no, 8, 2, rk, (rn + 1), 0, ok, on, en, j, o, ⟨slot, 0, 5, false, false⟩, l, r⟩ := by
      show (if pastI (vAt m 6 (l.getD (rk + 1) 0)) n = true then Wt.passes ⟨4, 1, key, slot, n, w, no, told, 2, rk, (rn + 1), 0, ok, on, en, j, o, lv, l, r⟩ else Wt.ends ⟨4, 1, key, slot, n, w, no, told, 2, rk, (rn + 1), 0, ok, on, en, j, o, lv, l, r⟩ 5 8) = _
      simp only [hpa, Bool.false_eq_true, if_false, Wt.ends, qe]
    rw [e1]
    exact wo_u2_x _ _ _ _ _ _ _ _ _ _ _ _ _ _ _ _ _ (pcs_of ⟨Int.le_refl _, by omega, Nat.le_refl _, by omega, ho, hs, hpa, trivial⟩)
  | true =>
    by_cases hz : rn = 0
    · have hz' : (rn + 1) - 1 = 0 := by omega
      cases hh : hasI w 1 slot with
      | false =>
        have e1 : wrSt ⟨4, 1, key, slot, n, w, no, told, 2, rk, (rn + 1), 0, ok, on, en, j, o, lv, l, r⟩ m = ⟨5, 1, key, slot, n, w, no, told, 2, (rk + 1), rn, 0, ok, on, en, j, o, lv, l, r⟩ := by
          show (if pastI (vAt m 6 (l.getD (rk + 1) 0)) n = true then Wt.passes ⟨4, 1, key, slot, n, w, no, told, 2, rk, (rn + 1), 0, ok, on, en, j, o, lv, l, r⟩ else Wt.ends ⟨4, 1, key, slot, n, w, no, told, 2, rk, (rn + 1), 0, ok, on, en, j, o, lv, l, r⟩ 5 8) = _
          simp only [hpa, Wt.passes, Wt.goes, Wt.clear, Wt.found, Wt.ends, Wt.goto, rdO, lenS, nxtS, qe, qj, Nat.add_sub_cancel, hz, hh, if_true, Bool.false_eq_true, if_false]
        rw [e1]
        exact wo_u2_m _ _ _ _ _ _ _ _ _ _ _ _ _ _ _ _ _ (pcs_of ⟨Int.le_refl _, by omega, Nat.le_refl _, by omega, ho, hs, hpa, by omega, Nat.le_refl _, (len_zero hz').1, (len_zero hz').2, gw, hh, trivial⟩)
      | true =>
        by_cases hO : othL w 0 slot = []
        · have e1 : wrSt ⟨4, 1, key, slot, n, w, no, told, 2, rk, (rn + 1), 0, ok, on, en, j, o, lv, l, r⟩ m = ⟨8, 2, key, slot, n, w, no, 0, 2, (rk + 1), rn, 0, ok, on, en, j, o, ⟨slot, 0, -1, false, false⟩, l, r⟩ := by
            show (if pastI (vAt m 6 (l.getD (rk + 1) 0)) n = true then Wt.passes ⟨4, 1, key, slot, n, w, no, told, 2, rk, (rn + 1), 0, ok, on, en, j, o, lv, l, r⟩ else Wt.ends ⟨4, 1, key, slot, n, w, no, told, 2, rk, (rn + 1), 0, ok, on, en, j, o, lv, l, r⟩ 5 8) = _
            simp only [hpa, Wt.passes, Wt.goes, Wt.clear, Wt.found, Wt.ends, Wt.goto, rdO, lenS, nxtS, qe, qj, Nat.add_sub_cancel, hz, hh, if_true, hO, if_true]
          rw [e1]
          exact wo_u2_n _ _ _ _ _ _ _ _ _ _ _ _ _ _ _ _ _ (pcs_of ⟨Int.le_refl _, by omega, Nat.le_refl _, by omega, ho, hs, hpa, by omega, Nat.le_refl _, (len_zero hz').1, (len_zero hz').2, gw, hh, ⟨gw, hO⟩, trivial⟩)
        · have e1 : wrSt ⟨4, 1, key, slot, n, w, no, told, 2, rk, (rn + 1), 0, ok, on, en, j, o, lv, l, r⟩ m = ⟨6, 3, key, slot, n, w, no, told, 2, (rk + 1), rn, 1, ok, on, en, rdJoin ((othL w 0 slot).getD 0 0) 0 slot n, o, lv, l, (othL w 0 slot)⟩ := by
            show (if pastI (vAt m 6 (l.getD (rk + 1) 0)) n = true then Wt.passes ⟨4, 1, key, slot, n, w, no, told, 2, rk, (rn + 1), 0, ok, on, en, j, o, lv, l, r⟩ else Wt.ends ⟨4, 1, key, slot, n, w, no, told, 2, rk, (rn + 1), 0, ok, on, en, j, o, lv, l, r⟩ 5 8) = _
            simp only [hpa, Wt.passes, Wt.goes, Wt.clear, Wt.found, Wt.ends, Wt.goto, rdO, lenS, nxtS, qe, qj, Nat.add_sub_cancel, hz, hh, if_true, hO, if_false]
          rw [e1]
          have hp := getD_nil hO
          exact wo_u2_o _ _ _ _ _ _ _ _ _ _ _ _ _ _ _ _ _ (pcs_of ⟨Int.le_refl _, by omega, Nat.le_refl _, by omega, ho, hs, hpa, by omega, Nat.le_refl _, (len_zero hz').1, (len_zero hz').2, gw, hh, ⟨gw, hO⟩, (len_pos hp).2, Int.le_refl _, by omega, hp, trivial⟩)
    · have hz' : 0 < (rn + 1) - 1 := by omega
      have e1 : wrSt ⟨4, 1, key, slot, n, w, no, told, 2, rk, (rn + 1), 0, ok, on, en, j, o, lv, l, r⟩ m = ⟨3, 1, key, slot, n, w, no, told, 2, (rk + 1), rn, 0, ok, on, en, j, o, lv, l, r⟩ := by
        show (if pastI (vAt m 6 (l.getD (rk + 1) 0)) n = true then Wt.passes ⟨4, 1, key, slot, n, w, no, told, 2, rk, (rn + 1), 0, ok, on, en, j, o, lv, l, r⟩ else Wt.ends ⟨4, 1, key, slot, n, w, no, told, 2, rk, (rn + 1), 0, ok, on, en, j, o, lv, l, r⟩ 5 8) = _
        simp only [hpa, Wt.passes, Wt.goes, Wt.clear, Wt.found, Wt.ends, Wt.goto, rdO, lenS, nxtS, qe, qj, Nat.add_sub_cancel, hz, if_false, if_true]
      rw [e1]
      exact wo_u2_g _ _ _ _ _ _ _ _ _ _ _ _ _ _ _ _ _ (pcs_of ⟨Int.le_refl _, by omega, Nat.le_refl _, by omega, ho, hs, hpa, by omega, Nat.le_refl _, (len_pos hz').1, (len_pos hz').2, trivial⟩)
theorem ws_50 (ho : m.ok) (gw : Wd w) : wrOut ⟨5, 1, key, slot, n, w, no, told, 0, rk, rn, 0, ok, on, en, j, o, lv, l, r⟩ m (wrSt ⟨5, 1, key, slot, n, w, no, told, 0, rk, rn, 0, ok, on, en, j, o, lv, l, r⟩ m) (wrMe ⟨5, 1, key, slot, n, w, no, told, 0, rk, rn, 0, ok, on, en, j, o, lv, l, r⟩ m) := by
  cases hh : dnS m 8 key w with
  | false =>
    have e1 : wrSt ⟨5, 1, key, slot, n, w, no, told, 0, rk, rn, 0, ok, on, en, j, o, lv, l, r⟩ m = ⟨2, 1, key, slot, n, w, no, told, 0, rk, rn, 0, ok, on, en, j, o, lv, l, r⟩ := by
      show (if dnS m 8 key w = true then Wt.found ⟨5, 1, key, slot, n, w, no, told, 0, rk, rn, 0, ok, on, en, j, o, lv, l, r⟩ else Wt.goto ⟨5, 1, key, slot, n, w, no, told, 0, rk, rn, 0, ok, on, en, j, o, lv, l, r⟩ 2) = _
      simp only [hh, Bool.false_eq_true, if_false, Wt.goto]
    rw [e1]
    exact wo_k0_f _ _ _ _ _ _ _ _ _ _ _ _ _ _ _ _ _ (pcs_of ⟨gw, ho, hh, trivial⟩)
  | true =>
    by_cases hO : othL w 0 slot = []
    · have e1 : wrSt ⟨5, 1, key, slot, n, w, no, told, 0, rk, rn, 0, ok, on, en, j, o, lv, l, r⟩ m = ⟨8, 2, key, slot, n, w, no, 0, 0, rk, rn, 0, ok, on, en, j, o, ⟨slot, 0, -1, false, false⟩, l, r⟩ := by
        show (if dnS m 8 key w = true then Wt.found ⟨5, 1, key, slot, n, w, no, told, 0, rk, rn, 0, ok, on, en, j, o, lv, l, r⟩ else Wt.goto ⟨5, 1, key, slot, n, w, no, told, 0, rk, rn, 0, ok, on, en, j, o, lv, l, r⟩ 2) = _
        simp only [hh, if_true, Wt.found, Wt.ends, rdO, qe, qj, hO, if_true]
      rw [e1]
      exact wo_k0_n _ _ _ _ _ _ _ _ _ _ _ _ _ _ _ _ _ (pcs_of ⟨gw, ho, hh, ⟨gw, hO⟩, trivial⟩)
    · have e1 : wrSt ⟨5, 1, key, slot, n, w, no, told, 0, rk, rn, 0, ok, on, en, j, o, lv, l, r⟩ m = ⟨6, 3, key, slot, n, w, no, told, 0, rk, rn, 1, ok, on, en, rdJoin ((othL w 0 slot).getD 0 0) 0 slot n, o, lv, l, (othL w 0 slot)⟩ := by
        show (if dnS m 8 key w = true then Wt.found ⟨5, 1, key, slot, n, w, no, told, 0, rk, rn, 0, ok, on, en, j, o, lv, l, r⟩ else Wt.goto ⟨5, 1, key, slot, n, w, no, told, 0, rk, rn, 0, ok, on, en, j, o, lv, l, r⟩ 2) = _
        simp only [hh, if_true, Wt.found, Wt.ends, rdO, qe, qj, hO, if_false]
      rw [e1]
      have hp := getD_nil hO
      exact wo_k0_o _ _ _ _ _ _ _ _ _ _ _ _ _ _ _ _ _ (pcs_of ⟨gw, ho, hh, ⟨gw, hO⟩, (len_pos hp).2, Int.le_refl _, by omega, hp, trivial⟩)
theorem ws_52 (ho : m.ok) (gw : Wd w) : wrOut ⟨5, 1, key, slot, n, w, no, told, 2, rk, rn, 0, ok, on, en, j, o, lv, l, r⟩ m (wrSt ⟨5, 1, key, slot, n, w, no, told, 2, rk, rn, 0, ok, on, en, j, o, lv, l, r⟩ m) (wrMe ⟨5, 1, key, slot, n, w, no, told, 2, rk, rn, 0, ok, on, en, j, o, lv, l, r⟩ m) := by
  cases hh : dnS m 8 key w with
  | false =>
    have e1 : wrSt ⟨5, 1, key, slot, n, w, no, told, 2, rk, rn, 0, ok, on, en, j, o, lv, l, r⟩ m = ⟨2, 1, key, slot, n, w, no, told, 2, rk, rn, 0, ok, on, en, j, o, lv, l, r⟩ := by
      show (if dnS m 8 key w = true then Wt.found ⟨5, 1, key, slot, n, w, no, told, 2, rk, rn, 0, ok, on, en, j, o, lv, l, r⟩ else Wt.goto ⟨5, 1, key, slot, n, w, no, told, 2, rk, rn, 0, ok, on, en, j, o, lv, l, r⟩ 2) = _
      simp only [hh, Bool.false_eq_true, if_false, Wt.goto]
    rw [e1]
    exact wo_k2_f _ _ _ _ _ _ _ _ _ _ _ _ _ _ _ _ _ (pcs_of ⟨gw, ho, hh, trivial⟩)
  | true =>
    by_cases hO : othL w 0 slot = []
    · have e1 : wrSt ⟨5, 1, key, slot, n, w, no, told, 2, rk, rn, 0, ok, on, en, j, o, lv, l, r⟩ m = ⟨8, 2, key, slot, n, w, no, 0, 2, rk, rn, 0, ok, on, en, j, o, ⟨slot, 0, -1, false, false⟩, l, r⟩ := by
        show (if dnS m 8 key w = true then Wt.found ⟨5, 1, key, slot, n, w, no, told, 2, rk, rn, 0, ok, on, en, j, o, lv, l, r⟩ else Wt.goto ⟨5, 1, key, slot, n, w, no, told, 2, rk, rn, 0, ok, on, en, j, o, lv, l, r⟩ 2) = _
        simp only [hh, if_true, Wt.found, Wt.ends, rdO, qe, qj, hO, if_true]
      rw [e1]
      exact wo_k2_n _ _ _ _ _ _ _ _ _ _ _ _ _ _ _ _ _ (pcs_of ⟨gw, ho, hh, ⟨gw, hO⟩, trivial⟩)
    · have e1 : wrSt ⟨5, 1, key, slot, n, w, no, told, 2, rk, rn, 0, ok, on, en, j, o, lv, l, r⟩ m = ⟨6, 3, key, slot, n, w, no, told, 2, rk, rn, 1, ok, on, en, rdJoin ((othL w 0 slot).getD 0 0) 0 slot n, o, lv, l, (othL w 0 slot)⟩ := by
        show (if dnS m 8 key w = true then Wt.found ⟨5, 1, key, slot, n, w, no, told, 2, rk, rn, 0, ok, on, en, j, o, lv, l, r⟩ else Wt.goto ⟨5, 1, key, slot, n, w, no, told, 2, rk, rn, 0, ok, on, en, j, o, lv, l, r⟩ 2) = _
        simp only [hh, if_true, Wt.found, Wt.ends, rdO, qe, qj, hO, if_false]
      rw [e1]
      have hp := getD_nil hO
      exact wo_k2_o _ _ _ _ _ _ _ _ _ _ _ _ _ _ _ _ _ (pcs_of ⟨gw, ho, hh, ⟨gw, hO⟩, (len_pos hp).2, Int.le_refl _, by omega, hp, trivial⟩)
theorem ws_6013 (ho : m.ok) (hw : WfW m.w) (g1 : Wd j.s) (g2 : j.fn = lookF ∨ j.fn = numF ∨ j.fn = layF) (hl : 0 < r.length) : wrOut ⟨6, 3, key, slot, n, w, no, told, 0, rk, rn, 1, ok, on, en, j, o, lv, l, r⟩ m (wrSt ⟨6, 3, key, slot, n, w, no, told, 0, rk, rn, 1, ok, on, en, j, o, lv, l, r⟩ m) (wrMe ⟨6, 3, key, slot, n, w, no, told, 0, rk, rn, 1, ok, on, en, j, o, lv, l, r⟩ m) := by
  have hJ : T0 (jGood j m) := ⟨rfl, ho, hw, g1, g2⟩
  cases h2 : ((jSt j m).r == 2) with
  | true =>
    have e1 : wrSt ⟨6, 3, key, slot, n, w, no, told, 0, rk, rn, 1, ok, on, en, j, o, lv, l, r⟩ m = ⟨7, 4, key, slot, n, w, no, told, 0, rk, rn, 1, ok, on, en, jSt j m, ⟨slot, 1, (r.getD 0 0), 0, false, false⟩, lv, l, r⟩ := by
      show wrJoined ⟨6, 3, key, slot, n, w, no, told, 0, rk, rn, 1, ok, on, en, j, o, lv, l, r⟩ (jSt j m) = _
      simp only [wrJoined, h2, if_true, Wt.other, offS]
    rw [e1]
    exact wo_j013_2 _ _ _ _ _ _ _ _ _ _ _ _ _ _ _ _ _ (pcs_of ⟨hJ, h2, Int.le_refl _, by omega, hl, trivial⟩)
  | false =>
    cases h1 : ((jSt j m).r == 1) with
    | true =>
    by_cases hz : r.length - 1 = 0
    · have hz' : r.length - 1 = 0 := by omega
      have e1 : wrSt ⟨6, 3, key, slot, n, w, no, told, 0, rk, rn, 1, ok, on, en, j, o, lv, l, r⟩ m = ⟨8, 3, key, slot, n, w, no, 0, 0, rk, rn, 2, 0, (r.length - 1), en, jSt j m, o, ⟨slot, 0, -1, false, false⟩, l, r⟩ := by
        show wrJoined ⟨6, 3, key, slot, n, w, no, told, 0, rk, rn, 1, ok, on, en, j, o, lv, l, r⟩ (jSt j m) = _
        simp only [wrJoined, h2, h1, Bool.false_eq_true, if_false, if_true, Wt.next, Wt.ends, lenS, nxtS, qe, Nat.zero_add, hz, if_true]
      rw [e1]
      exact wo_j013_e _ _ _ _ _ _ _ _ _ _ _ _ _ _ _ _ _ (pcs_of ⟨hJ, h2, h1, by omega, Nat.le_refl _, (len_zero hz').2, trivial⟩)
    · have hz' : 0 < r.length - 1 := by omega
      have e1 : wrSt ⟨6, 3, key, slot, n, w, no, told, 0, rk, rn, 1, ok, on, en, j, o, lv, l, r⟩ m = ⟨6, 3, key, slot, n, w, no, told, 0, rk, rn, 2, 0, (r.length - 1), en, rdJoin (r.getD 1 0) 0 slot n, o, lv, l, r⟩ := by
        show wrJoined ⟨6, 3, key, slot, n, w, no, told, 0, rk, rn, 1, ok, on, en, j, o, lv, l, r⟩ (jSt j m) = _
        simp only [wrJoined, h2, h1, Bool.false_eq_true, if_false, if_true, Wt.next, Wt.ends, lenS, nxtS, qe, Nat.zero_add, hz, if_false]
      rw [e1]
      exact wo_j013_g _ _ _ _ _ _ _ _ _ _ _ _ _ _ _ _ _ (pcs_of ⟨hJ, h2, h1, by omega, Nat.le_refl _, (len_pos hz').2, Int.le_refl _, by omega, Nat.le_refl _, by omega, trivial⟩)
    | false =>
      cases h3 : ((jSt j m).r == 3) with
      | true =>
        have e1 : wrSt ⟨6, 3, key, slot, n, w, no, told, 0, rk, rn, 1, ok, on, en, j, o, lv, l, r⟩ m = ⟨8, 3, key, slot, n, w, no, 7, 0, rk, rn, 1, ok, on, en, jSt j m, o, ⟨slot, 0, 5, false, false⟩, l, r⟩ := by
          show wrJoined ⟨6, 3, key, slot, n, w, no, told, 0, rk, rn, 1, ok, on, en, j, o, lv, l, r⟩ (jSt j m) = _
          simp only [wrJoined, h2, h1, h3, Bool.false_eq_true, if_false, if_true, Wt.ends, qe]
        rw [e1]
        exact wo_j013_3 _ _ _ _ _ _ _ _ _ _ _ _ _ _ _ _ _ (pcs_of ⟨hJ, h2, h1, h3, trivial⟩)
      | false =>
        have e1 : wrSt ⟨6, 3, key, slot, n, w, no, told, 0, rk, rn, 1, ok, on, en, j, o, lv, l, r⟩ m = ⟨6, 3, key, slot, n, w, no, told, 0, rk, rn, 1, ok, on, en, jSt j m, o, lv, l, r⟩ := by
          show wrJoined ⟨6, 3, key, slot, n, w, no, told, 0, rk, rn, 1, ok, on, en, j, o, lv, l, r⟩ (jSt j m) = _
          simp only [wrJoined, h2, h1, h3, Bool.false_eq_true, if_false]
        rw [e1]
        exact wo_j013_0 _ _ _ _ _ _ _ _ _ _ _ _ _ _ _ _ _ (pcs_of ⟨hJ, h2, h1, h3, trivial⟩)
theorem ws_6023 (ho : m.ok) (hw : WfW m.w) (g1 : Wd j.s) (g2 : j.fn = lookF ∨ j.fn = numF ∨ j.fn = layF) (hl : ok + 1 + (on + 1) = r.length) : wrOut ⟨6, 3, key, slot, n, w, no, told, 0, rk, rn, 2, ok, (on + 1), en, j, o, lv, l, r⟩ m (wrSt ⟨6, 3, key, slot, n, w, no, told, 0, rk, rn, 2, ok, (on + 1), en, j, o, lv, l, r⟩ m) (wrMe ⟨6, 3, key, slot, n, w, no, told, 0, rk, rn, 2, ok, (on + 1), en, j, o, lv, l, r⟩ m) := by
  have hJ : T0 (jGood j m) := ⟨rfl, ho, hw, g1, g2⟩
  cases h2 : ((jSt j m).r == 2) with
  | true =>
    have e1 : wrSt ⟨6, 3, key, slot, n, w, no, told, 0, rk, rn, 2, ok, (on + 1), en, j, o, lv, l, r⟩ m = ⟨7, 4, key, slot, n, w, no, told, 0, rk, rn, 2, ok, (on + 1), en, jSt j m, ⟨slot, 1, (r.getD (ok + 1) 0), 0, false, false⟩, lv, l, r⟩ := by
      show wrJoined ⟨6, 3, key, slot, n, w, no, told, 0, rk, rn, 2, ok, (on + 1), en, j, o, lv, l, r⟩ (jSt j m) = _
      simp only [wrJoined, h2, if_true, Wt.other, offS]
    rw [e1]
    exact wo_j023_2 _ _ _ _ _ _ _ _ _ _ _ _ _ _ _ _ _ (pcs_of ⟨hJ, h2, Int.le_refl _, by omega, Nat.le_refl _, by omega, trivial⟩)
  | false =>
    cases h1 : ((jSt j m).r == 1) with
    | true =>
    by_cases hz : on = 0
    · have hz' : (on + 1) - 1 = 0 := by omega
      have e1 : wrSt ⟨6, 3, key, slot, n, w, no, told, 0, rk, rn, 2, ok, (on + 1), en, j, o, lv, l, r⟩ m = ⟨8, 3, key, slot, n, w, no, 0, 0, rk, rn, 2, (ok + 1), on, en, jSt j m, o, ⟨slot, 0, -1, false, false⟩, l, r⟩ := by
        show wrJoined ⟨6, 3, key, slot, n, w, no, told, 0, rk, rn, 2, ok, (on + 1), en, j, o, lv, l, r⟩ (jSt j m) = _
        simp only [wrJoined, h2, h1, Bool.false_eq_true, if_false, if_true, Wt.next, Wt.ends, lenS, nxtS, qe, Nat.add_sub_cancel, hz, if_true]
      rw [e1]
      exact wo_j023_e _ _ _ _ _ _ _ _ _ _ _ _ _ _ _ _ _ (pcs_of ⟨hJ, h2, h1, by omega, Nat.le_refl _, (len_zero hz').2, trivial⟩)
    · have hz' : 0 < (on + 1) - 1 := by omega
      have e1 : wrSt ⟨6, 3, key, slot, n, w, no, told, 0, rk, rn, 2, ok, (on + 1), en, j, o, lv, l, r⟩ m = ⟨6, 3, key, slot, n, w, no, told, 0, rk, rn, 2, (ok + 1), on, en, rdJoin (r.getD (ok + 1 + 1) 0) 0 slot n, o, lv, l, r⟩ := by
        show wrJoined ⟨6, 3, key, slot, n, w, no, told, 0, rk, rn, 2, ok, (on + 1), en, j, o, lv, l, r⟩ (jSt j m) = _
        simp only [wrJoined, h2, h1, Bool.false_eq_true, if_false, if_true, Wt.next, Wt.ends, lenS, nxtS, qe, Nat.add_sub_cancel, hz, if_false]
      rw [e1]
      exact wo_j023_g _ _ _ _ _ _ _ _ _ _ _ _ _ _ _ _ _ (pcs_of ⟨hJ, h2, h1, by omega, Nat.le_refl _, (len_pos hz').2, Int.le_refl _, by omega, Nat.le_refl _, by omega, trivial⟩)
    | false =>
      cases h3 : ((jSt j m).r == 3) with
      | true =>
        have e1 : wrSt ⟨6, 3, key, slot, n, w, no, told, 0, rk, rn, 2, ok, (on + 1), en, j, o, lv, l, r⟩ m = ⟨8, 3, key, slot, n, w, no, 7, 0, rk, rn, 2, ok, (on + 1), en, jSt j m, o, ⟨slot, 0, 5, false, false⟩, l, r⟩ := by
          show wrJoined ⟨6, 3, key, slot, n, w, no, told, 0, rk, rn, 2, ok, (on + 1), en, j, o, lv, l, r⟩ (jSt j m) = _
          simp only [wrJoined, h2, h1, h3, Bool.false_eq_true, if_false, if_true, Wt.ends, qe]
        rw [e1]
        exact wo_j023_3 _ _ _ _ _ _ _ _ _ _ _ _ _ _ _ _ _ (pcs_of ⟨hJ, h2, h1, h3, trivial⟩)
      | false =>
        have e1 : wrSt ⟨6, 3, key, slot, n, w, no, told, 0, rk, rn, 2, ok, (on + 1), en, j, o, lv, l, r⟩ m = ⟨6, 3, key, slot, n, w, no, told, 0, rk, rn, 2, ok, (on + 1), en, jSt j m, o, lv, l, r⟩ := by
          show wrJoined ⟨6, 3, key, slot, n, w, no, told, 0, rk, rn, 2, ok, (on + 1), en, j, o, lv, l, r⟩ (jSt j m) = _
          simp only [wrJoined, h2, h1, h3, Bool.false_eq_true, if_false]
        rw [e1]
        exact wo_j023_0 _ _ _ _ _ _ _ _ _ _ _ _ _ _ _ _ _ (pcs_of ⟨hJ, h2, h1, h3, trivial⟩)
theorem ws_6024 (ho : m.ok) (hw : WfW m.w) (g1 : Wd j.s) (g2 : j.fn = lookF ∨ j.fn = numF ∨ j.fn = layF) (hl : ok + 1 + (on + 1) = r.length) : wrOut ⟨6, 4, key, slot, n, w, no, told, 0, rk, rn, 2, ok, (on + 1), en, j, o, lv, l, r⟩ m (wrSt ⟨6, 4, key, slot, n, w, no, told, 0, rk, rn, 2, ok, (on + 1), en, j, o, lv, l, r⟩ m) (wrMe ⟨6, 4, key, slot, n, w, no, told, 0, rk, rn, 2, ok, (on + 1), en, j, o, lv, l, r⟩ m) := by
  have hJ : T0 (jGood j m) := ⟨rfl, ho, hw, g1, g2⟩
  cases h2 : ((jSt j m).r == 2) with
  | true =>
    have e1 : wrSt ⟨6, 4, key, slot, n, w, no, told, 0, rk, rn, 2, ok, (on + 1), en, j, o, lv, l, r⟩ m = ⟨7, 4, key, slot, n, w, no, told, 0, rk, rn, 2, ok, (on + 1), en, jSt j m, ⟨slot, 1, (r.getD (ok + 1) 0), 0, false, false⟩, lv, l, r⟩ := by
      show wrJoined ⟨6, 4, key, slot, n, w, no, told, 0, rk, rn, 2, ok, (on + 1), en, j, o, lv, l, r⟩ (jSt j m) = _
      simp only [wrJoined, h2, if_true, Wt.other, offS]
    rw [e1]
    exact wo_j024_2 _ _ _ _ _ _ _ _ _ _ _ _ _ _ _ _ _ (pcs_of ⟨hJ, h2, Int.le_refl _, by omega, Nat.le_refl _, by omega, trivial⟩)
  | false =>
    cases h1 : ((jSt j m).r == 1) with
    | true =>
    by_cases hz : on = 0
    · have hz' : (on + 1) - 1 = 0 := by omega
      have e1 : wrSt ⟨6, 4, key, slot, n, w, no, told, 0, rk, rn, 2, ok, (on + 1), en, j, o, lv, l, r⟩ m = ⟨8, 4, key, slot, n, w, no, 0, 0, rk, rn, 2, (ok + 1), on, en, jSt j m, o, ⟨slot, 0, -1, false, false⟩, l, r⟩ := by
        show wrJoined ⟨6, 4, key, slot, n, w, no, told, 0, rk, rn, 2, ok, (on + 1), en, j, o, lv, l, r⟩ (jSt j m) = _
        simp only [wrJoined, h2, h1, Bool.false_eq_true, if_false, if_true, Wt.next, Wt.ends, lenS, nxtS, qe, Nat.add_sub_cancel, hz, if_true]
      rw [e1]
      exact wo_j024_e _ _ _ _ _ _ _ _ _ _ _ _ _ _ _ _ _ (pcs_of ⟨hJ, h2, h1, by omega, Nat.le_refl _, (len_zero hz').2, trivial⟩)
    · have hz' : 0 < (on + 1) - 1 := by omega
      have e1 : wrSt ⟨6, 4, key, slot, n, w, no, told, 0, rk, rn, 2, ok, (on + 1), en, j, o, lv, l, r⟩ m = ⟨6, 4, key, slot, n, w, no, told, 0, rk, rn, 2, (ok + 1), on, en, rdJoin (r.getD (ok + 1 + 1) 0) 0 slot n, o, lv, l, r⟩ := by
        show wrJoined ⟨6, 4, key, slot, n, w, no, told, 0, rk, rn, 2, ok, (on + 1), en, j, o, lv, l, r⟩ (jSt j m) = _
        simp only [wrJoined, h2, h1, Bool.false_eq_true, if_false, if_true, Wt.next, Wt.ends, lenS, nxtS, qe, Nat.add_sub_cancel, hz, if_false]
      rw [e1]
      exact wo_j024_g _ _ _ _ _ _ _ _ _ _ _ _ _ _ _ _ _ (pcs_of ⟨hJ, h2, h1, by omega, Nat.le_refl _, (len_pos hz').2, Int.le_refl _, by omega, Nat.le_refl _, by omega, trivial⟩)
    | false =>
      cases h3 : ((jSt j m).r == 3) with
      | true =>
        have e1 : wrSt ⟨6, 4, key, slot, n, w, no, told, 0, rk, rn, 2, ok, (on + 1), en, j, o, lv, l, r⟩ m = ⟨8, 4, key, slot, n, w, no, 7, 0, rk, rn, 2, ok, (on + 1), en, jSt j m, o, ⟨slot, 0, 5, false, false⟩, l, r⟩ := by
          show wrJoined ⟨6, 4, key, slot, n, w, no, told, 0, rk, rn, 2, ok, (on + 1), en, j, o, lv, l, r⟩ (jSt j m) = _
          simp only [wrJoined, h2, h1, h3, Bool.false_eq_true, if_false, if_true, Wt.ends, qe]
        rw [e1]
        exact wo_j024_3 _ _ _ _ _ _ _ _ _ _ _ _ _ _ _ _ _ (pcs_of ⟨hJ, h2, h1, h3, trivial⟩)
      | false =>
        have e1 : wrSt ⟨6, 4, key, slot, n, w, no, told, 0, rk, rn, 2, ok, (on + 1), en, j, o, lv, l, r⟩ m = ⟨6, 4, key, slot, n, w, no, told, 0, rk, rn, 2, ok, (on + 1), en, jSt j m, o, lv, l, r⟩ := by
          show wrJoined ⟨6, 4, key, slot, n, w, no, told, 0, rk, rn, 2, ok, (on + 1), en, j, o, lv, l, r⟩ (jSt j m) = _
          simp only [wrJoined, h2, h1, h3, Bool.false_eq_true, if_false]
        rw [e1]
        exact wo_j024_0 _ _ _ _ _ _ _ _ _ _ _ _ _ _ _ _ _ (pcs_of ⟨hJ, h2, h1, h3, trivial⟩)
theorem ws_6213 (ho : m.ok) (hw : WfW m.w) (g1 : Wd j.s) (g2 : j.fn = lookF ∨ j.fn = numF ∨ j.fn = layF) (hl : 0 < r.length) : wrOut ⟨6, 3, key, slot, n, w, no, told, 2, rk, rn, 1, ok, on, en, j, o, lv, l, r⟩ m (wrSt ⟨6, 3, key, slot, n, w, no, told, 2, rk, rn, 1, ok, on, en, j, o, lv, l, r⟩ m) (wrMe ⟨6, 3, key, slot, n, w, no, told, 2, rk, rn, 1, ok, on, en, j, o, lv, l, r⟩ m) := by
  have hJ : T0 (jGood j m) := ⟨rfl, ho, hw, g1, g2⟩
  cases h2 : ((jSt j m).r == 2) with
  | true =>
    have e1 : wrSt ⟨6, 3, key, slot, n, w, no, told, 2, rk, rn, 1, ok, on, en, j, o, lv, l, r⟩ m = ⟨7, 4, key, slot, n, w, no, told, 2, rk, rn, 1, ok, on, en, jSt j m, ⟨slot, 1, (r.getD 0 0), 0, false, false⟩, lv, l, r⟩ := by
      show wrJoined ⟨6, 3, key, slot, n, w, no, told, 2, rk, rn, 1, ok, on, en, j, o, lv, l, r⟩ (jSt j m) = _
      simp only [wrJoined, h2, if_true, Wt.other, offS]
    rw [e1]
    exact wo_j213_2 _ _ _ _ _ _ _ _ _ _ _ _ _ _ _ _ _ (pcs_of ⟨hJ, h2, Int.le_refl _, by omega, hl, trivial⟩)
  | false =>
    cases h1 : ((jSt j m).r == 1) with
    | true =>
    by_cases hz : r.length - 1 = 0
    · have hz' : r.length - 1 = 0 := by omega
      have e1 : wrSt ⟨6, 3, key, slot, n, w, no, told, 2, rk, rn, 1, ok, on, en, j, o, lv, l, r⟩ m = ⟨8, 3, key, slot, n, w, no, 0, 2, rk, rn, 2, 0, (r.length - 1), en, jSt j m, o, ⟨slot, 0, -1, false, false⟩, l, r⟩ := by
        show wrJoined ⟨6, 3, key, slot, n, w, no, told, 2, rk, rn, 1, ok, on, en, j, o, lv, l, r⟩ (jSt j m) = _
        simp only [wrJoined, h2, h1, Bool.false_eq_true, if_false, if_true, Wt.next, Wt.ends, lenS, nxtS, qe, Nat.zero_add, hz, if_true]
      rw [e1]
      exact wo_j213_e _ _ _ _ _ _ _ _ _ _ _ _ _ _ _ _ _ (pcs_of ⟨hJ, h2, h1, by omega, Nat.le_refl _, (len_zero hz').2, trivial⟩)
    · have hz' : 0 < r.length - 1 := by omega
      have e1 : wrSt ⟨6, 3, key, slot, n, w, no, told, 2, rk, rn, 1, ok, on, en, j, o, lv, l, r⟩ m = ⟨6, 3, key, slot, n, w, no, told, 2, rk, rn, 2, 0, (r.length - 1), en, rdJoin (r.getD 1 0) 0 slot n, o, lv, l, r⟩ := by
        show wrJoined ⟨6, 3, key, slot, n, w, no, told, 2, rk, rn, 1, ok, on, en, j, o, lv, l, r⟩ (jSt j m) = _
        simp only [wrJoined, h2, h1, Bool.false_eq_true, if_false, if_true, Wt.next, Wt.ends, lenS, nxtS, qe, Nat.zero_add, hz, if_false]
      rw [e1]
      exact wo_j213_g _ _ _ _ _ _ _ _ _ _ _ _ _ _ _ _ _ (pcs_of ⟨hJ, h2, h1, by omega, Nat.le_refl _, (len_pos hz').2, Int.le_refl _, by omega, Nat.le_refl _, by omega, trivial⟩)
    | false =>
      cases h3 : ((jSt j m).r == 3) with
      | true =>
        have e1 : wrSt ⟨6, 3, key, slot, n, w, no, told, 2, rk, rn, 1, ok, on, en, j, o, lv, l, r⟩ m = ⟨8, 3, key, slot, n, w, no, 7, 2, rk, rn, 1, ok, on, en, jSt j m, o, ⟨slot, 0, 5, false, false⟩, l, r⟩ := by
          show wrJoined ⟨6, 3, key, slot, n, w, no, told, 2, rk, rn, 1, ok, on, en, j, o, lv, l, r⟩ (jSt j m) = _
          simp only [wrJoined, h2, h1, h3, Bool.false_eq_true, if_false, if_true, Wt.ends, qe]
        rw [e1]
        exact wo_j213_3 _ _ _ _ _ _ _ _ _ _ _ _ _ _ _ _ _ (pcs_of ⟨hJ, h2, h1, h3, trivial⟩)
      | false =>
        have e1 : wrSt ⟨6, 3, key, slot, n, w, no, told, 2, rk, rn, 1, ok, on, en, j, o, lv, l, r⟩ m = ⟨6, 3, key, slot, n, w, no, told, 2, rk, rn, 1, ok, on, en, jSt j m, o, lv, l, r⟩ := by
          show wrJoined ⟨6, 3, key, slot, n, w, no, told, 2, rk, rn, 1, ok, on, en, j, o, lv, l, r⟩ (jSt j m) = _
          simp only [wrJoined, h2, h1, h3, Bool.false_eq_true, if_false]
        rw [e1]
        exact wo_j213_0 _ _ _ _ _ _ _ _ _ _ _ _ _ _ _ _ _ (pcs_of ⟨hJ, h2, h1, h3, trivial⟩)
theorem ws_6223 (ho : m.ok) (hw : WfW m.w) (g1 : Wd j.s) (g2 : j.fn = lookF ∨ j.fn = numF ∨ j.fn = layF) (hl : ok + 1 + (on + 1) = r.length) : wrOut ⟨6, 3, key, slot, n, w, no, told, 2, rk, rn, 2, ok, (on + 1), en, j, o, lv, l, r⟩ m (wrSt ⟨6, 3, key, slot, n, w, no, told, 2, rk, rn, 2, ok, (on + 1), en, j, o, lv, l, r⟩ m) (wrMe ⟨6, 3, key, slot, n, w, no, told, 2, rk, rn, 2, ok, (on + 1), en, j, o, lv, l, r⟩ m) := by
  have hJ : T0 (jGood j m) := ⟨rfl, ho, hw, g1, g2⟩
  cases h2 : ((jSt j m).r == 2) with
  | true =>
    have e1 : wrSt ⟨6, 3, key, slot, n, w, no, told, 2, rk, rn, 2, ok, (on + 1), en, j, o, lv, l, r⟩ m = ⟨7, 4, key, slot, n, w, no, told, 2, rk, rn, 2, ok, (on + 1), en, jSt j m, ⟨slot, 1, (r.getD (ok + 1) 0), 0, false, false⟩, lv, l, r⟩ := by
      show wrJoined ⟨6, 3, key, slot, n, w, no, told, 2, rk, rn, 2, ok, (on + 1), en, j, o, lv, l, r⟩ (jSt j m) = _
      simp only [wrJoined, h2, if_true, Wt.other, offS]
    rw [e1]
    exact wo_j223_2 _ _ _ _ _ _ _ _ _ _ _ _ _ _ _ _ _ (pcs_of ⟨hJ, h2, Int.le_refl _, by omega, Nat.le_refl _, by omega, trivial⟩)
  | false =>
    cases h1 : ((jSt j m).r == 1) with
    | true =>
    by_cases hz : on = 0
    · have hz' : (on + 1) - 1 = 0 := by omega
      have e1 : wrSt ⟨6, 3, key, slot, n, w, no, told, 2, rk, rn, 2, ok, (on + 1), en, j, o, lv, l, r⟩ m = ⟨8, 3, key, slot, n, w, no, 0, 2, rk, rn, 2, (ok + 1), on, en, jSt j m, o, ⟨slot, 0, -1, false, false⟩, l, r⟩ := by
        show wrJoined ⟨6, 3, key, slot, n, w, no, told, 2, rk, rn, 2, ok, (on + 1), en, j, o, lv, l, r⟩ (jSt j m) = _
        simp only [wrJoined, h2, h1, Bool.false_eq_true, if_false, if_true, Wt.next, Wt.ends, lenS, nxtS, qe, Nat.add_sub_cancel, hz, if_true]
      rw [e1]
      exact wo_j223_e _ _ _ _ _ _ _ _ _ _ _ _ _ _ _ _ _ (pcs_of ⟨hJ, h2, h1, by omega, Nat.le_refl _, (len_zero hz').2, trivial⟩)
    · have hz' : 0 < (on + 1) - 1 := by omega
      have e1 : wrSt ⟨6, 3, key, slot, n, w, no, told, 2, rk, rn, 2, ok, (on + 1), en, j, o, lv, l, r⟩ m = ⟨6, 3, key, slot, n, w, no, told, 2, rk, rn, 2, (ok + 1), on, en, rdJoin (r.getD (ok + 1 + 1) 0) 0 slot n, o, lv, l, r⟩ := by
        show wrJoined ⟨6, 3, key, slot, n, w, no, told, 2, rk, rn, 2, ok, (on + 1), en, j, o, lv, l, r⟩ (jSt j m) = _
        simp only [wrJoined, h2, h1, Bool.false_eq_true, if_false, if_true, Wt.next, Wt.ends, lenS, nxtS, qe, Nat.add_sub_cancel, hz, if_false]
      rw [e1]
      exact wo_j223_g _ _ _ _ _ _ _ _ _ _ _ _ _ _ _ _ _ (pcs_of ⟨hJ, h2, h1, by omega, Nat.le_refl _, (len_pos hz').2, Int.le_refl _, by omega, Nat.le_refl _, by omega, trivial⟩)
    | false =>
      cases h3 : ((jSt j m).r == 3) with
      | true =>
        have e1 : wrSt ⟨6, 3, key, slot, n, w, no, told, 2, rk, rn, 2, ok, (on + 1), en, j, o, lv, l, r⟩ m = ⟨8, 3, key, slot, n, w, no, 7, 2, rk, rn, 2, ok, (on + 1), en, jSt j m, o, ⟨slot, 0, 5, false, false⟩, l, r⟩ := by
          show wrJoined ⟨6, 3, key, slot, n, w, no, told, 2, rk, rn, 2, ok, (on + 1), en, j, o, lv, l, r⟩ (jSt j m) = _
          simp only [wrJoined, h2, h1, h3, Bool.false_eq_true, if_false, if_true, Wt.ends, qe]
        rw [e1]
        exact wo_j223_3 _ _ _ _ _ _ _ _ _ _ _ _ _ _ _ _ _ (pcs_of ⟨hJ, h2, h1, h3, trivial⟩)
      | false =>
        have e1 : wrSt ⟨6, 3, key, slot, n, w, no, told, 2, rk, rn, 2, ok, (on + 1), en, j, o, lv, l, r⟩ m = ⟨6, 3, key, slot, n, w, no, told, 2, rk, rn, 2, ok, (on + 1), en, jSt j m, o, lv, l, r⟩ := by
          show wrJoined ⟨6, 3, key, slot, n, w, no, told, 2, rk, rn, 2, ok, (on + 1), en, j, o, lv, l, r⟩ (jSt j m) = _
          simp only [wrJoined, h2, h1, h3, Bool.false_eq_true, if_false]
        rw [e1]
        exact wo_j223_0 _ _ _ _ _ _ _ _ _ _ _ _ _ _ _ _ _ (pcs_of ⟨hJ, h2, h1, h3, trivial⟩)
theorem ws_6224 (ho : m.ok) (hw : WfW m.w) (g1 : Wd j.s) (g2 : j.fn = lookF ∨ j.fn = numF ∨ j.fn = layF) (hl : ok + 1 + (on + 1) = r.length) : wrOut ⟨6, 4, key, slot, n, w, no, told, 2, rk, rn, 2, ok, (on + 1), en, j, o, lv, l, r⟩ m (wrSt ⟨6, 4, key, slot, n, w, no, told, 2, rk, rn, 2, ok, (on + 1), en, j, o, lv, l, r⟩ m) (wrMe ⟨6, 4, key, slot, n, w, no, told, 2, rk, rn, 2, ok, (on + 1), en, j, o, lv, l, r⟩ m) := by
  have hJ : T0 (jGood j m) := ⟨rfl, ho, hw, g1, g2⟩
  cases h2 : ((jSt j m).r == 2) with
  | true =>
    have e1 : wrSt ⟨6, 4, key, slot, n, w, no, told, 2, rk, rn, 2, ok, (on + 1), en, j, o, lv, l, r⟩ m = ⟨7, 4, key, slot, n, w, no, told, 2, rk, rn, 2, ok, (on + 1), en, jSt j m, ⟨slot, 1, (r.getD (ok + 1) 0), 0, false, false⟩, lv, l, r⟩ := by
      show wrJoined ⟨6, 4, key, slot, n, w, no, told, 2, rk, rn, 2, ok, (on + 1), en, j, o, lv, l, r⟩ (jSt j m) = _
      simp only [wrJoined, h2, if_true, Wt.other, offS]
    rw [e1]
    exact wo_j224_2 _ _ _ _ _ _ _ _ _ _ _ _ _ _ _ _ _ (pcs_of ⟨hJ, h2, Int.le_refl _, by omega, Nat.le_refl _, by omega, trivial⟩)
  | false =>
    cases h1 : ((jSt j m).r == 1) with
    | true =>
    by_cases hz : on = 0
    · have hz' : (on + 1) - 1 = 0 := by omega
      have e1 : wrSt ⟨6, 4, key, slot, n, w, no, told, 2, rk, rn, 2, ok, (on + 1), en, j, o, lv, l, r⟩ m = ⟨8, 4, key, slot, n, w, no, 0, 2, rk, rn, 2, (ok + 1), on, en, jSt j m, o, ⟨slot, 0, -1, false, false⟩, l, r⟩ := by
        show wrJoined ⟨6, 4, key, slot, n, w, no, told, 2, rk, rn, 2, ok, (on + 1), en, j, o, lv, l, r⟩ (jSt j m) = _
        simp only [wrJoined, h2, h1, Bool.false_eq_true, if_false, if_true, Wt.next, Wt.ends, lenS, nxtS, qe, Nat.add_sub_cancel, hz, if_true]
      rw [e1]
      exact wo_j224_e _ _ _ _ _ _ _ _ _ _ _ _ _ _ _ _ _ (pcs_of ⟨hJ, h2, h1, by omega, Nat.le_refl _, (len_zero hz').2, trivial⟩)
    · have hz' : 0 < (on + 1) - 1 := by omega
      have e1 : wrSt ⟨6, 4, key, slot, n, w, no, told, 2, rk, rn, 2, ok, (on + 1), en, j, o, lv, l, r⟩ m = ⟨6, 4, key, slot, n, w, no, told, 2, rk, rn, 2, (ok + 1), on, en, rdJoin (r.getD (ok + 1 + 1) 0) 0 slot n, o, lv, l, r⟩ := by
        show wrJoined ⟨6, 4, key, slot, n, w, no, told, 2, rk, rn, 2, ok, (on + 1), en, j, o, lv, l, r⟩ (jSt j m) = _
        simp only [wrJoined, h2, h1, Bool.false_eq_true, if_false, if_true, Wt.next, Wt.ends, lenS, nxtS, qe, Nat.add_sub_cancel, hz, if_false]
      rw [e1]
      exact wo_j224_g _ _ _ _ _ _ _ _ _ _ _ _ _ _ _ _ _ (pcs_of ⟨hJ, h2, h1, by omega, Nat.le_refl _, (len_pos hz').2, Int.le_refl _, by omega, Nat.le_refl _, by omega, trivial⟩)
    | false =>
      cases h3 : ((jSt j m).r == 3) with
      | true =>
        have e1 : wrSt ⟨6, 4, key, slot, n, w, no, told, 2, rk, rn, 2, ok, (on + 1), en, j, o, lv, l, r⟩ m = ⟨8, 4, key, slot, n, w, no, 7, 2, rk, rn, 2, ok, (on + 1), en, jSt j m, o, ⟨slot, 0, 5, false, false⟩, l, r⟩ := by
          show wrJoined ⟨6, 4, key, slot, n, w, no, told, 2, rk, rn, 2, ok, (on + 1), en, j, o, lv, l, r⟩ (jSt j m) = _
          simp only [wrJoined, h2, h1, h3, Bool.false_eq_true, if_false, if_true, Wt.ends, qe]
        rw [e1]
        exact wo_j224_3 _ _ _ _ _ _ _ _ _ _ _ _ _ _ _ _ _ (pcs_of ⟨hJ, h2, h1, h3, trivial⟩)
      | false =>
        have e1 : wrSt ⟨6, 4, key, slot, n, w, no, told, 2, rk, rn, 2, ok, (on + 1), en, j, o, lv, l, r⟩ m = ⟨6, 4, key, slot, n, w, no, told, 2, rk, rn, 2, ok, (on + 1), en, jSt j m, o, lv, l, r⟩ := by
          show wrJoined ⟨6, 4, key, slot, n, w, no, told, 2, rk, rn, 2, ok, (on + 1), en, j, o, lv, l, r⟩ (jSt j m) = _
          simp only [wrJoined, h2, h1, h3, Bool.false_eq_true, if_false]
        rw [e1]
        exact wo_j224_0 _ _ _ _ _ _ _ _ _ _ _ _ _ _ _ _ _ (pcs_of ⟨hJ, h2, h1, h3, trivial⟩)
theorem ws_701 (ho : m.ok) (hw : WfW m.w) (g1 : Wd o.s) (hl : 0 < r.length) : wrOut ⟨7, 4, key, slot, n, w, no, told, 0, rk, rn, 1, ok, on, en, j, o, lv, l, r⟩ m (wrSt ⟨7, 4, key, slot, n, w, no, told, 0, rk, rn, 1, ok, on, en, j, o, lv, l, r⟩ m) (wrMe ⟨7, 4, key, slot, n, w, no, told, 0, rk, rn, 1, ok, on, en, j, o, lv, l, r⟩ m) := by
  have hO : T0 (oGood o m) := ⟨rfl, ho, hw, g1⟩
  cases hd : (oSt o m).dn with
  | false =>
    have e1 : wrSt ⟨7, 4, key, slot, n, w, no, told, 0, rk, rn, 1, ok, on, en, j, o, lv, l, r⟩ m = ⟨7, 4, key, slot, n, w, no, told, 0, rk, rn, 1, ok, on, en, j, oSt o m, lv, l, r⟩ := by
      show wrOwned ⟨7, 4, key, slot, n, w, no, told, 0, rk, rn, 1, ok, on, en, j, o, lv, l, r⟩ (oSt o m) = _
      simp only [wrOwned, hd, Bool.false_eq_true, if_false]
    rw [e1]
    exact wo_o01_0 _ _ _ _ _ _ _ _ _ _ _ _ _ _ _ _ _ (pcs_of ⟨hO, hd, trivial⟩)
  | true =>
    by_cases hz : r.length - 1 = 0
    · have hz' : r.length - 1 = 0 := by omega
      have e1 : wrSt ⟨7, 4, key, slot, n, w, no, told, 0, rk, rn, 1, ok, on, en, j, o, lv, l, r⟩ m = ⟨8, 4, key, slot, n, w, no, 0, 0, rk, rn, 2, 0, (r.length - 1), en, j, oSt o m, ⟨slot, 0, -1, false, false⟩, l, r⟩ := by
        show wrOwned ⟨7, 4, key, slot, n, w, no, told, 0, rk, rn, 1, ok, on, en, j, o, lv, l, r⟩ (oSt o m) = _
        simp only [wrOwned, hd, if_true, Wt.next, Wt.ends, lenS, nxtS, qe, Nat.zero_add, hz, if_true]
      rw [e1]
      exact wo_o01_e _ _ _ _ _ _ _ _ _ _ _ _ _ _ _ _ _ (pcs_of ⟨hO, hd, by omega, Nat.le_refl _, (len_zero hz').2, trivial⟩)
    · have hz' : 0 < r.length - 1 := by omega
      have e1 : wrSt ⟨7, 4, key, slot, n, w, no, told, 0, rk, rn, 1, ok, on, en, j, o, lv, l, r⟩ m = ⟨6, 4, key, slot, n, w, no, told, 0, rk, rn, 2, 0, (r.length - 1), en, rdJoin (r.getD 1 0) 0 slot n, oSt o m, lv, l, r⟩ := by
        show wrOwned ⟨7, 4, key, slot, n, w, no, told, 0, rk, rn, 1, ok, on, en, j, o, lv, l, r⟩ (oSt o m) = _
        simp only [wrOwned, hd, if_true, Wt.next, Wt.ends, lenS, nxtS, qe, Nat.zero_add, hz, if_false]
      rw [e1]
      exact wo_o01_g _ _ _ _ _ _ _ _ _ _ _ _ _ _ _ _ _ (pcs_of ⟨hO, hd, by omega, Nat.le_refl _, (len_pos hz').2, Int.le_refl _, by omega, Nat.le_refl _, by omega, trivial⟩)
theorem ws_702 (ho : m.ok) (hw : WfW m.w) (g1 : Wd o.s) (hl : ok + 1 + (on + 1) = r.length) : wrOut ⟨7, 4, key, slot, n, w, no, told, 0, rk, rn, 2, ok, (on + 1), en, j, o, lv, l, r⟩ m (wrSt ⟨7, 4, key, slot, n, w, no, told, 0, rk, rn, 2, ok, (on + 1), en, j, o, lv, l, r⟩ m) (wrMe ⟨7, 4, key, slot, n, w, no, told, 0, rk, rn, 2, ok, (on + 1), en, j, o, lv, l, r⟩ m) := by
  have hO : T0 (oGood o m) := ⟨rfl, ho, hw, g1⟩
  cases hd : (oSt o m).dn with
  | false =>
    have e1 : wrSt ⟨7, 4, key, slot, n, w, no, told, 0, rk, rn, 2, ok, (on + 1), en, j, o, lv, l, r⟩ m = ⟨7, 4, key, slot, n, w, no, told, 0, rk, rn, 2, ok, (on + 1), en, j, oSt o m, lv, l, r⟩ := by
      show wrOwned ⟨7, 4, key, slot, n, w, no, told, 0, rk, rn, 2, ok, (on + 1), en, j, o, lv, l, r⟩ (oSt o m) = _
      simp only [wrOwned, hd, Bool.false_eq_true, if_false]
    rw [e1]
    exact wo_o02_0 _ _ _ _ _ _ _ _ _ _ _ _ _ _ _ _ _ (pcs_of ⟨hO, hd, trivial⟩)
  | true =>
    by_cases hz : on = 0
    · have hz' : (on + 1) - 1 = 0 := by omega
      have e1 : wrSt ⟨7, 4, key, slot, n, w, no, told, 0, rk, rn, 2, ok, (on + 1), en, j, o, lv, l, r⟩ m = ⟨8, 4, key, slot, n, w, no, 0, 0, rk, rn, 2, (ok + 1), on, en, j, oSt o m, ⟨slot, 0, -1, false, false⟩, l, r⟩ := by
        show wrOwned ⟨7, 4, key, slot, n, w, no, told, 0, rk, rn, 2, ok, (on + 1), en, j, o, lv, l, r⟩ (oSt o m) = _
        simp only [wrOwned, hd, if_true, Wt.next, Wt.ends, lenS, nxtS, qe, Nat.add_sub_cancel, hz, if_true]
      rw [e1]
      exact wo_o02_e _ _ _ _ _ _ _ _ _ _ _ _ _ _ _ _ _ (pcs_of ⟨hO, hd, by omega, Nat.le_refl _, (len_zero hz').2, trivial⟩)
    · have hz' : 0 < (on + 1) - 1 := by omega
      have e1 : wrSt ⟨7, 4, key, slot, n, w, no, told, 0, rk, rn, 2, ok, (on + 1), en, j, o, lv, l, r⟩ m = ⟨6, 4, key, slot, n, w, no, told, 0, rk, rn, 2, (ok + 1), on, en, rdJoin (r.getD (ok + 1 + 1) 0) 0 slot n, oSt o m, lv, l, r⟩ := by
        show wrOwned ⟨7, 4, key, slot, n, w, no, told, 0, rk, rn, 2, ok, (on + 1), en, j, o, lv, l, r⟩ (oSt o m) = _
        simp only [wrOwned, hd, if_true, Wt.next, Wt.ends, lenS, nxtS, qe, Nat.add_sub_cancel, hz, if_false]
      rw [e1]
      exact wo_o02_g _ _ _ _ _ _ _ _ _ _ _ _ _ _ _ _ _ (pcs_of ⟨hO, hd, by omega, Nat.le_refl _, (len_pos hz').2, Int.le_refl _, by omega, Nat.le_refl _, by omega, trivial⟩)
theorem ws_721 (ho : m.ok) (hw : WfW m.w) (g1 : Wd o.s) (hl : 0 < r.length) : wrOut ⟨7, 4, key, slot, n, w, no, told, 2, rk, rn, 1, ok, on, en, j, o, lv, l, r⟩ m (wrSt ⟨7, 4, key, slot, n, w, no, told, 2, rk, rn, 1, ok, on, en, j, o, lv, l, r⟩ m) (wrMe ⟨7, 4, key, slot, n, w, no, told, 2, rk, rn, 1, ok, on, en, j, o, lv, l, r⟩ m) := by
  have hO : T0 (oGood o m) := ⟨rfl, ho, hw, g1⟩
  cases hd : (oSt o m).dn with
  | false =>
    have e1 : wrSt ⟨7, 4, key, slot, n, w, no, told, 2, rk, rn, 1, ok, on, en, j, o, lv, l, r⟩ m = ⟨7, 4, key, slot, n, w, no, told, 2, rk, rn, 1, ok, on, en, j, oSt o m, lv, l, r⟩ := by
      show wrOwned ⟨7, 4, key, slot, n, w, no, told, 2, rk, rn, 1, ok, on, en, j, o, lv, l, r⟩ (oSt o m) = _
      simp only [wrOwned, hd, Bool.false_eq_true, if_false]
    rw [e1]
    exact wo_o21_0 _ _ _ _ _ _ _ _ _ _ _ _ _ _ _ _ _ (pcs_of ⟨hO, hd, trivial⟩)
  | true =>
    by_cases hz : r.length - 1 = 0
    · have hz' : r.length - 1 = 0 := by omega
      have e1 : wrSt ⟨7, 4, key, slot, n, w, no, told, 2, rk, rn, 1, ok, on, en, j, o, lv, l, r⟩ m = ⟨8, 4, key, slot, n, w, no, 0, 2, rk, rn, 2, 0, (r.length - 1), en, j, oSt o m, ⟨slot, 0, -1, false, false⟩, l, r⟩ := by
        show wrOwned ⟨7, 4, key, slot, n, w, no, told, 2, rk, rn, 1, ok, on, en, j, o, lv, l, r⟩ (oSt o m) = _
        simp only [wrOwned, hd, if_true, Wt.next, Wt.ends, lenS, nxtS, qe, Nat.zero_add, hz, if_true]
      rw [e1]
      exact wo_o21_e _ _ _ _ _ _ _ _ _ _ _ _ _ _ _ _ _ (pcs_of ⟨hO, hd, by omega, Nat.le_refl _, (len_zero hz').2, trivial⟩)
    · have hz' : 0 < r.length - 1 := by omega
      have e1 : wrSt ⟨7, 4, key, slot, n, w, no, told, 2, rk, rn, 1, ok, on, en, j, o, lv, l, r⟩ m = ⟨6, 4, key, slot, n, w, no, told, 2, rk, rn, 2, 0, (r.length - 1), en, rdJoin (r.getD 1 0) 0 slot n, oSt o m, lv, l, r⟩ := by
        show wrOwned ⟨7, 4, key, slot, n, w, no, told, 2, rk, rn, 1, ok, on, en, j, o, lv, l, r⟩ (oSt o m) = _
        simp only [wrOwned, hd, if_true, Wt.next, Wt.ends, lenS, nxtS, qe, Nat.zero_add, hz, if_false]
      rw [e1]
      exact wo_o21_g _ _ _ _ _ _ _ _ _ _ _ _ _ _ _ _ _ (pcs_of ⟨hO, hd, by omega, Nat.le_refl _, (len_pos hz').2, Int.le_refl _, by omega, Nat.le_refl _, by omega, trivial⟩)
theorem ws_722 (ho : m.ok) (hw : WfW m.w) (g1 : Wd o.s) (hl : ok + 1 + (on + 1) = r.length) : wrOut ⟨7, 4, key, slot, n, w, no, told, 2, rk, rn, 2, ok, (on + 1), en, j, o, lv, l, r⟩ m (wrSt ⟨7, 4, key, slot, n, w, no, told, 2, rk, rn, 2, ok, (on + 1), en, j, o, lv, l, r⟩ m) (wrMe ⟨7, 4, key, slot, n, w, no, told, 2, rk, rn, 2, ok, (on + 1), en, j, o, lv, l, r⟩ m) := by
  have hO : T0 (oGood o m) := ⟨rfl, ho, hw, g1⟩
  cases hd : (oSt o m).dn with
  | false =>
    have e1 : wrSt ⟨7, 4, key, slot, n, w, no, told, 2, rk, rn, 2, ok, (on + 1), en, j, o, lv, l, r⟩ m = ⟨7, 4, key, slot, n, w, no, told, 2, rk, rn, 2, ok, (on + 1), en, j, oSt o m, lv, l, r⟩ := by
      show wrOwned ⟨7, 4, key, slot, n, w, no, told, 2, rk, rn, 2, ok, (on + 1), en, j, o, lv, l, r⟩ (oSt o m) = _
      simp only [wrOwned, hd, Bool.false_eq_true, if_false]
    rw [e1]
    exact wo_o22_0 _ _ _ _ _ _ _ _ _ _ _ _ _ _ _ _ _ (pcs_of ⟨hO, hd, trivial⟩)
  | true =>
    by_cases hz : on = 0
    · have hz' : (on + 1) - 1 = 0 := by omega
      have e1 : wrSt ⟨7, 4, key, slot, n, w, no, told, 2, rk, rn, 2, ok, (on + 1), en, j, o, lv, l, r⟩ m = ⟨8, 4, key, slot, n, w, no, 0, 2, rk, rn, 2, (ok + 1), on, en, j, oSt o m, ⟨slot, 0, -1, false, false⟩, l, r⟩ := by
        show wrOwned ⟨7, 4, key, slot, n, w, no, told, 2, rk, rn, 2, ok, (on + 1), en, j, o, lv, l, r⟩ (oSt o m) = _
        simp only [wrOwned, hd, if_true, Wt.next, Wt.ends, lenS, nxtS, qe, Nat.add_sub_cancel, hz, if_true]
      rw [e1]
      exact wo_o22_e _ _ _ _ _ _ _ _ _ _ _ _ _ _ _ _ _ (pcs_of ⟨hO, hd, by omega, Nat.le_refl _, (len_zero hz').2, trivial⟩)
    · have hz' : 0 < (on + 1) - 1 := by omega
      have e1 : wrSt ⟨7, 4, key, slot, n, w, no, told, 2, rk, rn, 2, ok, (on + 1), en, j, o, lv, l, r⟩ m = ⟨6, 4, key, slot, n, w, no, told, 2, rk, rn, 2, (ok + 1), on, en, rdJoin (r.getD (ok + 1 + 1) 0) 0 slot n, oSt o m, lv, l, r⟩ := by
        show wrOwned ⟨7, 4, key, slot, n, w, no, told, 2, rk, rn, 2, ok, (on + 1), en, j, o, lv, l, r⟩ (oSt o m) = _
        simp only [wrOwned, hd, if_true, Wt.next, Wt.ends, lenS, nxtS, qe, Nat.add_sub_cancel, hz, if_false]
      rw [e1]
      exact wo_o22_g _ _ _ _ _ _ _ _ _ _ _ _ _ _ _ _ _ (pcs_of ⟨hO, hd, by omega, Nat.le_refl _, (len_pos hz').2, Int.le_refl _, by omega, Nat.le_refl _, by omega, trivial⟩)
theorem ws_8002 (ho : m.ok) (hw : WfW m.w) (g1 : Wd lv.s) : wrOut ⟨8, 2, key, slot, n, w, no, told, 0, rk, rn, 0, ok, on, en, j, o, lv, l, r⟩ m (wrSt ⟨8, 2, key, slot, n, w, no, told, 0, rk, rn, 0, ok, on, en, j, o, lv, l, r⟩ m) (wrMe ⟨8, 2, key, slot, n, w, no, told, 0, rk, rn, 0, ok, on, en, j, o, lv, l, r⟩ m) := by
  have hL : T0 (lGood lv m) := ⟨rfl, ho, hw, g1⟩
  cases hd : (lSt lv m).dn with
  | false =>
    have e1 : wrSt ⟨8, 2, key, slot, n, w, no, told, 0, rk, rn, 0, ok, on, en, j, o, lv, l, r⟩ m = ⟨8, 2, key, slot, n, w, no, told, 0, rk, rn, 0, ok, on, en, j, o, lSt lv m, l, r⟩ := by
      show wrLeft ⟨8, 2, key, slot, n, w, no, told, 0, rk, rn, 0, ok, on, en, j, o, lv, l, r⟩ (lSt lv m) = _
      simp only [wrLeft, hd, Bool.false_eq_true, if_false]
    rw [e1]
    exact wo_w002_0 _ _ _ _ _ _ _ _ _ _ _ _ _ _ _ _ _ (pcs_of ⟨hL, hd, trivial⟩)
  | true =>
    have e1 : wrSt ⟨8, 2, key, slot, n, w, no, told, 0, rk, rn, 0, ok, on, en, j, o, lv, l, r⟩ m = ⟨9, 2, key, slot, n, w, told, told, 0, rk, rn, 0, ok, on, en, j, o, lSt lv m, l, r⟩ := by
      show wrLeft ⟨8, 2, key, slot, n, w, no, told, 0, rk, rn, 0, ok, on, en, j, o, lv, l, r⟩ (lSt lv m) = _
      simp only [wrLeft, hd, if_true]
    rw [e1]
    exact wo_w002_1 _ _ _ _ _ _ _ _ _ _ _ _ _ _ _ _ _ (pcs_of ⟨hL, hd, trivial⟩)
theorem ws_8102 (ho : m.ok) (hw : WfW m.w) (g1 : Wd lv.s) : wrOut ⟨8, 2, key, slot, n, w, no, told, 1, rk, rn, 0, ok, on, en, j, o, lv, l, r⟩ m (wrSt ⟨8, 2, key, slot, n, w, no, told, 1, rk, rn, 0, ok, on, en, j, o, lv, l, r⟩ m) (wrMe ⟨8, 2, key, slot, n, w, no, told, 1, rk, rn, 0, ok, on, en, j, o, lv, l, r⟩ m) := by
  have hL : T0 (lGood lv m) := ⟨rfl, ho, hw, g1⟩
  cases hd : (lSt lv m).dn with
  | false =>
    have e1 : wrSt ⟨8, 2, key, slot, n, w, no, told, 1, rk, rn, 0, ok, on, en, j, o, lv, l, r⟩ m = ⟨8, 2, key, slot, n, w, no, told, 1, rk, rn, 0, ok, on, en, j, o, lSt lv m, l, r⟩ := by
      show wrLeft ⟨8, 2, key, slot, n, w, no, told, 1, rk, rn, 0, ok, on, en, j, o, lv, l, r⟩ (lSt lv m) = _
      simp only [wrLeft, hd, Bool.false_eq_true, if_false]
    rw [e1]
    exact wo_w102_0 _ _ _ _ _ _ _ _ _ _ _ _ _ _ _ _ _ (pcs_of ⟨hL, hd, trivial⟩)
  | true =>
    have e1 : wrSt ⟨8, 2, key, slot, n, w, no, told, 1, rk, rn, 0, ok, on, en, j, o, lv, l, r⟩ m = ⟨9, 2, key, slot, n, w, told, told, 1, rk, rn, 0, ok, on, en, j, o, lSt lv m, l, r⟩ := by
      show wrLeft ⟨8, 2, key, slot, n, w, no, told, 1, rk, rn, 0, ok, on, en, j, o, lv, l, r⟩ (lSt lv m) = _
      simp only [wrLeft, hd, if_true]
    rw [e1]
    exact wo_w102_1 _ _ _ _ _ _ _ _ _ _ _ _ _ _ _ _ _ (pcs_of ⟨hL, hd, trivial⟩)
theorem ws_8202 (ho : m.ok) (hw : WfW m.w) (g1 : Wd lv.s) : wrOut ⟨8, 2, key, slot, n, w, no, told, 2, rk, rn, 0, ok, on, en, j, o, lv, l, r⟩ m (wrSt ⟨8, 2, key, slot, n, w, no, told, 2, rk, rn, 0, ok, on, en, j, o, lv, l, r⟩ m) (wrMe ⟨8, 2, key, slot, n, w, no, told, 2, rk, rn, 0, ok, on, en, j, o, lv, l, r⟩ m) := by
  have hL : T0 (lGood lv m) := ⟨rfl, ho, hw, g1⟩
  cases hd : (lSt lv m).dn with
  | false =>
    have e1 : wrSt ⟨8, 2, key, slot, n, w, no, told, 2, rk, rn, 0, ok, on, en, j, o, lv, l, r⟩ m = ⟨8, 2, key, slot, n, w, no, told, 2, rk, rn, 0, ok, on, en, j, o, lSt lv m, l, r⟩ := by
      show wrLeft ⟨8, 2, key, slot, n, w, no, told, 2, rk, rn, 0, ok, on, en, j, o, lv, l, r⟩ (lSt lv m) = _
      simp only [wrLeft, hd, Bool.false_eq_true, if_false]
    rw [e1]
    exact wo_w202_0 _ _ _ _ _ _ _ _ _ _ _ _ _ _ _ _ _ (pcs_of ⟨hL, hd, trivial⟩)
  | true =>
    have e1 : wrSt ⟨8, 2, key, slot, n, w, no, told, 2, rk, rn, 0, ok, on, en, j, o, lv, l, r⟩ m = ⟨9, 2, key, slot, n, w, told, told, 2, rk, rn, 0, ok, on, en, j, o, lSt lv m, l, r⟩ := by
      show wrLeft ⟨8, 2, key, slot, n, w, no, told, 2, rk, rn, 0, ok, on, en, j, o, lv, l, r⟩ (lSt lv m) = _
      simp only [wrLeft, hd, if_true]
    rw [e1]
    exact wo_w202_1 _ _ _ _ _ _ _ _ _ _ _ _ _ _ _ _ _ (pcs_of ⟨hL, hd, trivial⟩)
theorem ws_8013 (ho : m.ok) (hw : WfW m.w) (g1 : Wd lv.s) : wrOut ⟨8, 3, key, slot, n, w, no, told, 0, rk, rn, 1, ok, on, en, j, o, lv, l, r⟩ m (wrSt ⟨8, 3, key, slot, n, w, no, told, 0, rk, rn, 1, ok, on, en, j, o, lv, l, r⟩ m) (wrMe ⟨8, 3, key, slot, n, w, no, told, 0, rk, rn, 1, ok, on, en, j, o, lv, l, r⟩ m) := by
  have hL : T0 (lGood lv m) := ⟨rfl, ho, hw, g1⟩
  cases hd : (lSt lv m).dn with
  | false =>
    have e1 : wrSt ⟨8, 3, key, slot, n, w, no, told, 0, rk, rn, 1, ok, on, en, j, o, lv, l, r⟩ m = ⟨8, 3, key, slot, n, w, no, told, 0, rk, rn, 1, ok, on, en, j, o, lSt lv m, l, r⟩ := by
      show wrLeft ⟨8, 3, key, slot, n, w, no, told, 0, rk, rn, 1, ok, on, en, j, o, lv, l, r⟩ (lSt lv m) = _
      simp only [wrLeft, hd, Bool.false_eq_true, if_false]
    rw [e1]
    exact wo_w013_0 _ _ _ _ _ _ _ _ _ _ _ _ _ _ _ _ _ (pcs_of ⟨hL, hd, trivial⟩)
  | true =>
    have e1 : wrSt ⟨8, 3, key, slot, n, w, no, told, 0, rk, rn, 1, ok, on, en, j, o, lv, l, r⟩ m = ⟨9, 3, key, slot, n, w, told, told, 0, rk, rn, 1, ok, on, en, j, o, lSt lv m, l, r⟩ := by
      show wrLeft ⟨8, 3, key, slot, n, w, no, told, 0, rk, rn, 1, ok, on, en, j, o, lv, l, r⟩ (lSt lv m) = _
      simp only [wrLeft, hd, if_true]
    rw [e1]
    exact wo_w013_1 _ _ _ _ _ _ _ _ _ _ _ _ _ _ _ _ _ (pcs_of ⟨hL, hd, trivial⟩)
theorem ws_8023 (ho : m.ok) (hw : WfW m.w) (g1 : Wd lv.s) : wrOut ⟨8, 3, key, slot, n, w, no, told, 0, rk, rn, 2, ok, on, en, j, o, lv, l, r⟩ m (wrSt ⟨8, 3, key, slot, n, w, no, told, 0, rk, rn, 2, ok, on, en, j, o, lv, l, r⟩ m) (wrMe ⟨8, 3, key, slot, n, w, no, told, 0, rk, rn, 2, ok, on, en, j, o, lv, l, r⟩ m) := by
  have hL : T0 (lGood lv m) := ⟨rfl, ho, hw, g1⟩
  cases hd : (lSt lv m).dn with
  | false =>
    have e1 : wrSt ⟨8, 3, key, slot, n, w, no, told, 0, rk, rn, 2, ok, on, en, j, o, lv, l, r⟩ m = ⟨8, 3, key, slot, n, w, no, told, 0, rk, rn, 2, ok, on, en, j, o, lSt lv m, l, r⟩ := by
      show wrLeft ⟨8, 3, key, slot, n, w, no, told, 0, rk, rn, 2, ok, on, en, j, o, lv, l, r⟩ (lSt lv m) = _
      simp only [wrLeft, hd, Bool.false_eq_true, if_false]
    rw [e1]
    exact wo_w023_0 _ _ _ _ _ _ _ _ _ _ _ _ _ _ _ _ _ (pcs_of ⟨hL, hd, trivial⟩)
  | true =>
    have e1 : wrSt ⟨8, 3, key, slot, n, w, no, told, 0, rk, rn, 2, ok, on, en, j, o, lv, l, r⟩ m = ⟨9, 3, key, slot, n, w, told, told, 0, rk, rn, 2, ok, on, en, j, o, lSt lv m, l, r⟩ := by
      show wrLeft ⟨8, 3, key, slot, n, w, no, told, 0, rk, rn, 2, ok, on, en, j, o, lv, l, r⟩ (lSt lv m) = _
      simp only [wrLeft, hd, if_true]
    rw [e1]
    exact wo_w023_1 _ _ _ _ _ _ _ _ _ _ _ _ _ _ _ _ _ (pcs_of ⟨hL, hd, trivial⟩)
theorem ws_8024 (ho : m.ok) (hw : WfW m.w) (g1 : Wd lv.s) : wrOut ⟨8, 4, key, slot, n, w, no, told, 0, rk, rn, 2, ok, on, en, j, o, lv, l, r⟩ m (wrSt ⟨8, 4, key, slot, n, w, no, told, 0, rk, rn, 2, ok, on, en, j, o, lv, l, r⟩ m) (wrMe ⟨8, 4, key, slot, n, w, no, told, 0, rk, rn, 2, ok, on, en, j, o, lv, l, r⟩ m) := by
  have hL : T0 (lGood lv m) := ⟨rfl, ho, hw, g1⟩
  cases hd : (lSt lv m).dn with
  | false =>
    have e1 : wrSt ⟨8, 4, key, slot, n, w, no, told, 0, rk, rn, 2, ok, on, en, j, o, lv, l, r⟩ m = ⟨8, 4, key, slot, n, w, no, told, 0, rk, rn, 2, ok, on, en, j, o, lSt lv m, l, r⟩ := by
      show wrLeft ⟨8, 4, key, slot, n, w, no, told, 0, rk, rn, 2, ok, on, en, j, o, lv, l, r⟩ (lSt lv m) = _
      simp only [wrLeft, hd, Bool.false_eq_true, if_false]
    rw [e1]
    exact wo_w024_0 _ _ _ _ _ _ _ _ _ _ _ _ _ _ _ _ _ (pcs_of ⟨hL, hd, trivial⟩)
  | true =>
    have e1 : wrSt ⟨8, 4, key, slot, n, w, no, told, 0, rk, rn, 2, ok, on, en, j, o, lv, l, r⟩ m = ⟨9, 4, key, slot, n, w, told, told, 0, rk, rn, 2, ok, on, en, j, o, lSt lv m, l, r⟩ := by
      show wrLeft ⟨8, 4, key, slot, n, w, no, told, 0, rk, rn, 2, ok, on, en, j, o, lv, l, r⟩ (lSt lv m) = _
      simp only [wrLeft, hd, if_true]
    rw [e1]
    exact wo_w024_1 _ _ _ _ _ _ _ _ _ _ _ _ _ _ _ _ _ (pcs_of ⟨hL, hd, trivial⟩)
theorem ws_8213 (ho : m.ok) (hw : WfW m.w) (g1 : Wd lv.s) : wrOut ⟨8, 3, key, slot, n, w, no, told, 2, rk, rn, 1, ok, on, en, j, o, lv, l, r⟩ m (wrSt ⟨8, 3, key, slot, n, w, no, told, 2, rk, rn, 1, ok, on, en, j, o, lv, l, r⟩ m) (wrMe ⟨8, 3, key, slot, n, w, no, told, 2, rk, rn, 1, ok, on, en, j, o, lv, l, r⟩ m) := by
  have hL : T0 (lGood lv m) := ⟨rfl, ho, hw, g1⟩
  cases hd : (lSt lv m).dn with
  | false =>
    have e1 : wrSt ⟨8, 3, key, slot, n, w, no, told, 2, rk, rn, 1, ok, on, en, j, o, lv, l, r⟩ m = ⟨8, 3, key, slot, n, w, no, told, 2, rk, rn, 1, ok, on, en, j, o, lSt lv m, l, r⟩ := by
      show wrLeft ⟨8, 3, key, slot, n, w, no, told, 2, rk, rn, 1, ok, on, en, j, o, lv, l, r⟩ (lSt lv m) = _
      simp only [wrLeft, hd, Bool.false_eq_true, if_false]
    rw [e1]
    exact wo_w213_0 _ _ _ _ _ _ _ _ _ _ _ _ _ _ _ _ _ (pcs_of ⟨hL, hd, trivial⟩)
  | true =>
    have e1 : wrSt ⟨8, 3, key, slot, n, w, no, told, 2, rk, rn, 1, ok, on, en, j, o, lv, l, r⟩ m = ⟨9, 3, key, slot, n, w, told, told, 2, rk, rn, 1, ok, on, en, j, o, lSt lv m, l, r⟩ := by
      show wrLeft ⟨8, 3, key, slot, n, w, no, told, 2, rk, rn, 1, ok, on, en, j, o, lv, l, r⟩ (lSt lv m) = _
      simp only [wrLeft, hd, if_true]
    rw [e1]
    exact wo_w213_1 _ _ _ _ _ _ _ _ _ _ _ _ _ _ _ _ _ (pcs_of ⟨hL, hd, trivial⟩)
theorem ws_8223 (ho : m.ok) (hw : WfW m.w) (g1 : Wd lv.s) : wrOut ⟨8, 3, key, slot, n, w, no, told, 2, rk, rn, 2, ok, on, en, j, o, lv, l, r⟩ m (wrSt ⟨8, 3, key, slot, n, w, no, told, 2, rk, rn, 2, ok, on, en, j, o, lv, l, r⟩ m) (wrMe ⟨8, 3, key, slot, n, w, no, told, 2, rk, rn, 2, ok, on, en, j, o, lv, l, r⟩ m) := by
  have hL : T0 (lGood lv m) := ⟨rfl, ho, hw, g1⟩
  cases hd : (lSt lv m).dn with
  | false =>
    have e1 : wrSt ⟨8, 3, key, slot, n, w, no, told, 2, rk, rn, 2, ok, on, en, j, o, lv, l, r⟩ m = ⟨8, 3, key, slot, n, w, no, told, 2, rk, rn, 2, ok, on, en, j, o, lSt lv m, l, r⟩ := by
      show wrLeft ⟨8, 3, key, slot, n, w, no, told, 2, rk, rn, 2, ok, on, en, j, o, lv, l, r⟩ (lSt lv m) = _
      simp only [wrLeft, hd, Bool.false_eq_true, if_false]
    rw [e1]
    exact wo_w223_0 _ _ _ _ _ _ _ _ _ _ _ _ _ _ _ _ _ (pcs_of ⟨hL, hd, trivial⟩)
  | true =>
    have e1 : wrSt ⟨8, 3, key, slot, n, w, no, told, 2, rk, rn, 2, ok, on, en, j, o, lv, l, r⟩ m = ⟨9, 3, key, slot, n, w, told, told, 2, rk, rn, 2, ok, on, en, j, o, lSt lv m, l, r⟩ := by
      show wrLeft ⟨8, 3, key, slot, n, w, no, told, 2, rk, rn, 2, ok, on, en, j, o, lv, l, r⟩ (lSt lv m) = _
      simp only [wrLeft, hd, if_true]
    rw [e1]
    exact wo_w223_1 _ _ _ _ _ _ _ _ _ _ _ _ _ _ _ _ _ (pcs_of ⟨hL, hd, trivial⟩)
theorem ws_8224 (ho : m.ok) (hw : WfW m.w) (g1 : Wd lv.s) : wrOut ⟨8, 4, key, slot, n, w, no, told, 2, rk, rn, 2, ok, on, en, j, o, lv, l, r⟩ m (wrSt ⟨8, 4, key, slot, n, w, no, told, 2, rk, rn, 2, ok, on, en, j, o, lv, l, r⟩ m) (wrMe ⟨8, 4, key, slot, n, w, no, told, 2, rk, rn, 2, ok, on, en, j, o, lv, l, r⟩ m) := by
  have hL : T0 (lGood lv m) := ⟨rfl, ho, hw, g1⟩
  cases hd : (lSt lv m).dn with
  | false =>
    have e1 : wrSt ⟨8, 4, key, slot, n, w, no, told, 2, rk, rn, 2, ok, on, en, j, o, lv, l, r⟩ m = ⟨8, 4, key, slot, n, w, no, told, 2, rk, rn, 2, ok, on, en, j, o, lSt lv m, l, r⟩ := by
      show wrLeft ⟨8, 4, key, slot, n, w, no, told, 2, rk, rn, 2, ok, on, en, j, o, lv, l, r⟩ (lSt lv m) = _
      simp only [wrLeft, hd, Bool.false_eq_true, if_false]
    rw [e1]
    exact wo_w224_0 _ _ _ _ _ _ _ _ _ _ _ _ _ _ _ _ _ (pcs_of ⟨hL, hd, trivial⟩)
  | true =>
    have e1 : wrSt ⟨8, 4, key, slot, n, w, no, told, 2, rk, rn, 2, ok, on, en, j, o, lv, l, r⟩ m = ⟨9, 4, key, slot, n, w, told, told, 2, rk, rn, 2, ok, on, en, j, o, lSt lv m, l, r⟩ := by
      show wrLeft ⟨8, 4, key, slot, n, w, no, told, 2, rk, rn, 2, ok, on, en, j, o, lv, l, r⟩ (lSt lv m) = _
      simp only [wrLeft, hd, if_true]
    rw [e1]
    exact wo_w224_1 _ _ _ _ _ _ _ _ _ _ _ _ _ _ _ _ _ (pcs_of ⟨hL, hd, trivial⟩)
end
theorem wrStep_C (r : Wt) (m : Mm) (hg : wrGood r m) : wrOut r m (wrSt r m) (wrMe r m) := by
  obtain ⟨ho, hw, hr⟩ := hg
  obtain ⟨pl, gw, gen, gj, go, glv, grl, gol⟩ := hr
  obtain ⟨ph, q, key, slot, n, w, no, told, ra, rk, rn, oa, ok, on, en, j, o, lv, l, r⟩ := r
  simp only [Wt.place, oaq] at pl gw gen gj go glv grl gol
  rcases pl with ⟨h, rfl, rfl, rfl⟩ | ⟨h, rfl, hra, rfl⟩ | ⟨h, rfl, hra, rfl⟩ | ⟨rfl, hra, hq⟩ | ⟨rfl, rfl, hra, hoa⟩ | ⟨h, hq⟩ | ⟨rfl, hq, rfl, rfl⟩
  · match ph, h with
    | 0, _ => exact ws_0 ho hw (gen rfl).1 (gen rfl).2
    | 1, _ => exact wo_s _ _ _ _ _ _ _ _ _ _ _ _ _ _ _ _ _ (pcs_of ⟨ho, trivial⟩)
  · rcases h with rfl | rfl
    · rcases hra with rfl | rfl
      · exact ws_20 ho hw
      · exact ws_22 ho hw
    · rcases hra with rfl | rfl
      · exact ws_50 ho gw
      · exact ws_52 ho gw
  · obtain ⟨_, hrow⟩ := grl h
    rcases hrow with ⟨rfl, hl⟩ | ⟨rfl, hn, hl⟩
    · rcases h with rfl | rfl
      · exact ws_31 ho hw gw hl
      · exact ws_41 ho hw gw hl
    · obtain ⟨n', rfl⟩ : ∃ n', rn = n' + 1 := ⟨rn - 1, by omega⟩
      rcases h with rfl | rfl
      · exact ws_32 ho hw gw hl
      · exact ws_42 ho hw gw hl
  · obtain ⟨g1, g2⟩ := gj rfl
    obtain ⟨_, hrow⟩ := gol (.inl rfl)
    rcases hrow with ⟨rfl, hl⟩ | ⟨rfl, hn, hl⟩
    · rcases hq with ⟨_, rfl⟩ | ⟨h, _⟩
      · rcases hra with rfl | rfl
        · exact ws_6013 ho hw g1 g2 hl
        · exact ws_6213 ho hw g1 g2 hl
      · omega
    · obtain ⟨n', rfl⟩ : ∃ n', on = n' + 1 := ⟨on - 1, by omega⟩
      rcases hq with ⟨h, _⟩ | ⟨_, rfl | rfl⟩
      · omega
      · rcases hra with rfl | rfl
        · exact ws_6023 ho hw g1 g2 hl
        · exact ws_6223 ho hw g1 g2 hl
      · rcases hra with rfl | rfl
        · exact ws_6024 ho hw g1 g2 hl
        · exact ws_6224 ho hw g1 g2 hl
  · have g1 := go rfl
    obtain ⟨_, hrow⟩ := gol (.inr rfl)
    rcases hrow with ⟨rfl, hl⟩ | ⟨rfl, hn, hl⟩
    · rcases hra with rfl | rfl
      · exact ws_701 ho hw g1 hl
      · exact ws_721 ho hw g1 hl
    · obtain ⟨n', rfl⟩ : ∃ n', on = n' + 1 := ⟨on - 1, by omega⟩
      rcases hra with rfl | rfl
      · exact ws_702 ho hw g1 hl
      · exact ws_722 ho hw g1 hl
  · rcases h with rfl | rfl
    · have g1 := glv rfl
      rcases hq with ⟨rfl, rfl, rfl | rfl | rfl⟩ | ⟨rfl | rfl, ⟨rfl, rfl⟩ | ⟨rfl, rfl | rfl⟩⟩
      · exact ws_8002 ho hw g1
      · exact ws_8102 ho hw g1
      · exact ws_8202 ho hw g1
      · exact ws_8013 ho hw g1
      · exact ws_8023 ho hw g1
      · exact ws_8024 ho hw g1
      · exact ws_8213 ho hw g1
      · exact ws_8223 ho hw g1
      · exact ws_8224 ho hw g1
    · rcases hq with ⟨rfl, rfl, rfl | rfl | rfl⟩ | ⟨rfl | rfl, ⟨rfl, rfl⟩ | ⟨rfl, rfl | rfl⟩⟩
      · exact wo_d002 _ _ _ _ _ _ _ _ _ _ _ _ _ _ _ _ _ (pcs_of trivial)
      · exact wo_d102 _ _ _ _ _ _ _ _ _ _ _ _ _ _ _ _ _ (pcs_of trivial)
      · exact wo_d202 _ _ _ _ _ _ _ _ _ _ _ _ _ _ _ _ _ (pcs_of trivial)
      · exact wo_d013 _ _ _ _ _ _ _ _ _ _ _ _ _ _ _ _ _ (pcs_of trivial)
      · exact wo_d023 _ _ _ _ _ _ _ _ _ _ _ _ _ _ _ _ _ (pcs_of trivial)
      · exact wo_d024 _ _ _ _ _ _ _ _ _ _ _ _ _ _ _ _ _ (pcs_of trivial)
      · exact wo_d213 _ _ _ _ _ _ _ _ _ _ _ _ _ _ _ _ _ (pcs_of trivial)
      · exact wo_d223 _ _ _ _ _ _ _ _ _ _ _ _ _ _ _ _ _ (pcs_of trivial)
      · exact wo_d224 _ _ _ _ _ _ _ _ _ _ _ _ _ _ _ _ _ (pcs_of trivial)
  · match q, hq with
    | 0, _ => exact wo_d000 _ _ _ _ _ _ _ _ _ _ _ _ _ _ _ _ _ (pcs_of trivial)
    | 1, _ => exact wo_d001 _ _ _ _ _ _ _ _ _ _ _ _ _ _ _ _ _ (pcs_of trivial)
end Go.Proofs.YtocfhiafegkfkaaGreat.Ct
namespace Go.Proofs.YtocfhiafegkfkaaGreat.Ct
open Go Go.Proofs Go.Proofs.YtocfhiafegkfkaaGreat.Ev
open Go.RowKit

open Dec in
section
variable (key slot n w no told : Int) (rk rn ok on : Nat) (en : Et) (j : Jn) (o : On) (lv : Lv) (l r : List Int)
theorem wn_0100 : callR Em3 12 wrDoneF [pt0] (hidHp0 wrF 15 (Wt.enc ⟨0, 1, key, slot, n, w, no, told, 0, rk, rn, 0, ok, on, en, j, o, lv, l, r⟩)).xp [] [0, 1, 2, 3, 4, 5, 6, 7, 8, 9, 10, 11, 12, 13, 14] = some (.bool false, (hidHp0 wrF 15 (Wt.enc ⟨0, 1, key, slot, n, w, no, told, 0, rk, rn, 0, ok, on, en, j, o, lv, l, r⟩)).xp, []) := by kernel_rfl
theorem we_0100 : callR Em3 12 wrErrF [pt0] (hidHp0 wrF 15 (Wt.enc ⟨0, 1, key, slot, n, w, no, told, 0, rk, rn, 0, ok, on, en, j, o, lv, l, r⟩)).xp [] [0, 1, 2, 3, 4, 5, 6, 7, 8, 9, 10, 11, 12, 13, 14] = some (.int .i64 no, (hidHp0 wrF 15 (Wt.enc ⟨0, 1, key, slot, n, w, no, told, 0, rk, rn, 0, ok, on, en, j, o, lv, l, r⟩)).xp, []) := by kernel_rfl
theorem wn_1100 : callR Em3 12 wrDoneF [pt0] (hidHp0 wrF 15 (Wt.enc ⟨1, 1, key, slot, n, w, no, told, 0, rk, rn, 0, ok, on, en, j, o, lv, l, r⟩)).xp [] [0, 1, 2, 3, 4, 5, 6, 7, 8, 9, 10, 11, 12, 13, 14] = some (.bool false, (hidHp0 wrF 15 (Wt.enc ⟨1, 1, key, slot, n, w, no, told, 0, rk, rn, 0, ok, on, en, j, o, lv, l, r⟩)).xp, []) := by kernel_rfl
theorem we_1100 : callR Em3 12 wrErrF [pt0] (hidHp0 wrF 15 (Wt.enc ⟨1, 1, key, slot, n, w, no, told, 0, rk, rn, 0, ok, on, en, j, o, lv, l, r⟩)).xp [] [0, 1, 2, 3, 4, 5, 6, 7, 8, 9, 10, 11, 12, 13, 14] = some (.int .i64 no, (hidHp0 wrF 15 (Wt.enc ⟨1, 1, key, slot, n, w, no, told, 0, rk, rn, 0, ok, on, en, j, o, lv, l, r⟩)).xp, []) := by kernel_rfl
theorem wn_2100 : callR Em3 12 wrDoneF [pt0] (hidHp0 wrF 15 (Wt.enc ⟨2, 1, key, slot, n, w, no, told, 0, rk, rn, 0, ok, on, en, j, o, lv, l, r⟩)).xp [] [0, 1, 2, 3, 4, 5, 6, 7, 8, 9, 10, 11, 12, 13, 14] = some (.bool false, (hidHp0 wrF 15 (Wt.enc ⟨2, 1, key, slot, n, w, no, told, 0, rk, rn, 0, ok, on, en, j, o, lv, l, r⟩)).xp, []) := by kernel_rfl
theorem we_2100 : callR Em3 12 wrErrF [pt0] (hidHp0 wrF 15 (Wt.enc ⟨2, 1, key, slot, n, w, no, told, 0, rk, rn, 0, ok, on, en, j, o, lv, l, r⟩)).xp [] [0, 1, 2, 3, 4, 5, 6, 7, 8, 9, 10, 11, 12, 13, 14] = some (.int .i64 no, (hidHp0 wrF 15 (Wt.enc ⟨2, 1, key, slot, n, w, no, told, 0, rk, rn, 0, ok, on, en, j, o, lv, l, r⟩)).xp, []) := by kernel_rfl
theorem wn_2120 : callR Em3 12 wrDoneF [pt0] (hidHp0 wrF 15 (Wt.enc ⟨2, 1, key, slot, n, w, no, told, 2, rk, rn, 0, ok, on, en, j, o, lv, l, r⟩)).xp [] [0, 1, 2, 3, 4, 5, 6, 7, 8, 9, 10, 11, 12, 13, 14] = some (.bool false, (hidHp0 wrF 15 (Wt.enc ⟨2, 1, key, slot, n, w, no, told, 2, rk, rn, 0, ok, on, en, j, o, lv, l, r⟩)).xp, []) := by kernel_rfl
theorem we_2120 : callR Em3 12 wrErrF [pt0] (hidHp0 wrF 15 (Wt.enc ⟨2, 1, key, slot, n, w, no, told, 2, rk, rn, 0, ok, on, en, j, o, lv, l, r⟩)).xp [] [0, 1, 2, 3, 4, 5, 6, 7, 8, 9, 10, 11, 12, 13, 14] = some (.int .i64 no, (hidHp0 wrF 15 (Wt.enc ⟨2, 1, key, slot, n, w, no, told, 2, rk, rn, 0, ok, on, en, j, o, lv, l, r⟩)).xp, []) := by kernel_rfl
theorem wn_5100 : callR Em3 12 wrDoneF [pt0] (hidHp0 wrF 15 (Wt.enc ⟨5, 1, key, slot, n, w, no, told, 0, rk, rn, 0, ok, on, en, j, o, lv, l, r⟩)).xp [] [0, 1, 2, 3, 4, 5, 6, 7, 8, 9, 10, 11, 12, 13, 14] = some (.bool false, (hidHp0 wrF 15 (Wt.enc ⟨5, 1, key, slot, n, w, no, told, 0, rk, rn, 0, ok, on, en, j, o, lv, l, r⟩)).xp, []) := by kernel_rfl
theorem we_5100 : callR Em3 12 wrErrF [pt0] (hidHp0 wrF 15 (Wt.enc ⟨5, 1, key, slot, n, w, no, told, 0, rk, rn, 0, ok, on, en, j, o, lv, l, r⟩)).xp [] [0, 1, 2, 3, 4, 5, 6, 7, 8, 9, 10, 11, 12, 13, 14] = some (.int .i64 no, (hidHp0 wrF 15 (Wt.enc ⟨5, 1, key, slot, n, w, no, told, 0, rk, rn, 0, ok, on, en, j, o, lv, l, r⟩)).xp, []) := by kernel_rfl
theorem wn_5120 : callR Em3 12 wrDoneF [pt0] (hidHp0 wrF 15 (Wt.enc ⟨5, 1, key, slot, n, w, no, told, 2, rk, rn, 0, ok, on, en, j, o, lv, l, r⟩)).xp [] [0, 1, 2, 3, 4, 5, 6, 7, 8, 9, 10, 11, 12, 13, 14] = some (.bool false, (hidHp0 wrF 15 (Wt.enc ⟨5, 1, key, slot, n, w, no, told, 2, rk, rn, 0, ok, on, en, j, o, lv, l, r⟩)).xp, []) := by kernel_rfl
theorem we_5120 : callR Em3 12 wrErrF [pt0] (hidHp0 wrF 15 (Wt.enc ⟨5, 1, key, slot, n, w, no, told, 2, rk, rn, 0, ok, on, en, j, o, lv, l, r⟩)).xp [] [0, 1, 2, 3, 4, 5, 6, 7, 8, 9, 10, 11, 12, 13, 14] = some (.int .i64 no, (hidHp0 wrF 15 (Wt.enc ⟨5, 1, key, slot, n, w, no, told, 2, rk, rn, 0, ok, on, en, j, o, lv, l, r⟩)).xp, []) := by kernel_rfl
theorem wn_3110 : callR Em3 12 wrDoneF [pt0] (hidHp0 wrF 15 (Wt.enc ⟨3, 1, key, slot, n, w, no, told, 1, rk, rn, 0, ok, on, en, j, o, lv, l, r⟩)).xp [] [0, 1, 2, 3, 4, 5, 6, 7, 8, 9, 10, 11, 12, 13, 14] = some (.bool false, (hidHp0 wrF 15 (Wt.enc ⟨3, 1, key, slot, n, w, no, told, 1, rk, rn, 0, ok, on, en, j, o, lv, l, r⟩)).xp, []) := by kernel_rfl
theorem we_3110 : callR Em3 12 wrErrF [pt0] (hidHp0 wrF 15 (Wt.enc ⟨3, 1, key, slot, n, w, no, told, 1, rk, rn, 0, ok, on, en, j, o, lv, l, r⟩)).xp [] [0, 1, 2, 3, 4, 5, 6, 7, 8, 9, 10, 11, 12, 13, 14] = some (.int .i64 no, (hidHp0 wrF 15 (Wt.enc ⟨3, 1, key, slot, n, w, no, told, 1, rk, rn, 0, ok, on, en, j, o, lv, l, r⟩)).xp, []) := by kernel_rfl
theorem wn_3120 : callR Em3 12 wrDoneF [pt0] (hidHp0 wrF 15 (Wt.enc ⟨3, 1, key, slot, n, w, no, told, 2, rk, rn, 0, ok, on, en, j, o, lv, l, r⟩)).xp [] [0, 1, 2, 3, 4, 5, 6, 7, 8, 9, 10, 11, 12, 13, 14] = some (.bool false, (hidHp0 wrF 15 (Wt.enc ⟨3, 1, key, slot, n, w, no, told, 2, rk, rn, 0, ok, on, en, j, o, lv, l, r⟩)).xp, []) := by kernel_rfl
theorem we_3120 : callR Em3 12 wrErrF [pt0] (hidHp0 wrF 15 (Wt.enc ⟨3, 1, key, slot, n, w, no, told, 2, rk, rn, 0, ok, on, en, j, o, lv, l, r⟩)).xp [] [0, 1, 2, 3, 4, 5, 6, 7, 8, 9, 10, 11, 12, 13, 14] = some (.int .i64 no, (hidHp0 wrF 15 (Wt.enc ⟨3, 1, key, slot, n, w, no, told, 2, rk, rn, 0, ok, on, en, j, o, lv, l, r⟩)).xp, []) := by kernel_rfl
theorem wn_4110 : callR Em3 12 wrDoneF [pt0] (hidHp0 wrF 15 (Wt.enc ⟨4, 1, key, slot, n, w, no, told, 1, rk, rn, 0, ok, on, en, j, o, lv, l, r⟩)).xp [] [0, 1, 2, 3, 4, 5, 6, 7, 8, 9, 10, 11, 12, 13, 14] = some (.bool false, (hidHp0 wrF 15 (Wt.enc ⟨4, 1, key, slot, n, w, no, told, 1, rk, rn, 0, ok, on, en, j, o, lv, l, r⟩)).xp, []) := by kernel_rfl
theorem we_4110 : callR Em3 12 wrErrF [pt0] (hidHp0 wrF 15 (Wt.enc ⟨4, 1, key, slot, n, w, no, told, 1, rk, rn, 0, ok, on, en, j, o, lv, l, r⟩)).xp [] [0, 1, 2, 3, 4, 5, 6, 7, 8, 9, 10, 11, 12, 13, 14] = some (.int .i64 no, (hidHp0 wrF 15 (Wt.enc ⟨4, 1, key, slot, n, w, no, told, 1, rk, rn, 0, ok, on, en, j, o, lv, l, r⟩)).xp, []) := by kernel_rfl
theorem wn_4120 : callR Em3 12 wrDoneF [pt0] (hidHp0 wrF 15 (Wt.enc ⟨4, 1, key, slot, n, w, no, told, 2, rk, rn, 0, ok, on, en, j, o, lv, l, r⟩)).xp [] [0, 1, 2, 3, 4, 5, 6, 7, 8, 9, 10, 11, 12, 13, 14] = some (.bool false, (hidHp0 wrF 15 (Wt.enc ⟨4, 1, key, slot, n, w, no, told, 2, rk, rn, 0, ok, on, en, j, o, lv, l, r⟩)).xp, []) := by kernel_rfl
theorem we_4120 : callR Em3 12 wrErrF [pt0] (hidHp0 wrF 15 (Wt.enc ⟨4, 1, key, slot, n, w, no, told, 2, rk, rn, 0, ok, on, en, j, o, lv, l, r⟩)).xp [] [0, 1, 2, 3, 4, 5, 6, 7, 8, 9, 10, 11, 12, 13, 14] = some (.int .i64 no, (hidHp0 wrF 15 (Wt.enc ⟨4, 1, key, slot, n, w, no, told, 2, rk, rn, 0, ok, on, en, j, o, lv, l, r⟩)).xp, []) := by kernel_rfl
theorem wn_6301 : callR Em3 12 wrDoneF [pt0] (hidHp0 wrF 15 (Wt.enc ⟨6, 3, key, slot, n, w, no, told, 0, rk, rn, 1, ok, on, en, j, o, lv, l, r⟩)).xp [] [0, 1, 2, 3, 4, 5, 6, 7, 8, 9, 10, 11, 12, 13, 14] = some (.bool false, (hidHp0 wrF 15 (Wt.enc ⟨6, 3, key, slot, n, w, no, told, 0, rk, rn, 1, ok, on, en, j, o, lv, l, r⟩)).xp, []) := by kernel_rfl
theorem we_6301 : callR Em3 12 wrErrF [pt0] (hidHp0 wrF 15 (Wt.enc ⟨6, 3, key, slot, n, w, no, told, 0, rk, rn, 1, ok, on, en, j, o, lv, l, r⟩)).xp [] [0, 1, 2, 3, 4, 5, 6, 7, 8, 9, 10, 11, 12, 13, 14] = some (.int .i64 no, (hidHp0 wrF 15 (Wt.enc ⟨6, 3, key, slot, n, w, no, told, 0, rk, rn, 1, ok, on, en, j, o, lv, l, r⟩)).xp, []) := by kernel_rfl
theorem wn_6302 : callR Em3 12 wrDoneF [pt0] (hidHp0 wrF 15 (Wt.enc ⟨6, 3, key, slot, n, w, no, told, 0, rk, rn, 2, ok, on, en, j, o, lv, l, r⟩)).xp [] [0, 1, 2, 3, 4, 5, 6, 7, 8, 9, 10, 11, 12, 13, 14] = some (.bool false, (hidHp0 wrF 15 (Wt.enc ⟨6, 3, key, slot, n, w, no, told, 0, rk, rn, 2, ok, on, en, j, o, lv, l, r⟩)).xp, []) := by kernel_rfl
theorem we_6302 : callR Em3 12 wrErrF [pt0] (hidHp0 wrF 15 (Wt.enc ⟨6, 3, key, slot, n, w, no, told, 0, rk, rn, 2, ok, on, en, j, o, lv, l, r⟩)).xp [] [0, 1, 2, 3, 4, 5, 6, 7, 8, 9, 10, 11, 12, 13, 14] = some (.int .i64 no, (hidHp0 wrF 15 (Wt.enc ⟨6, 3, key, slot, n, w, no, told, 0, rk, rn, 2, ok, on, en, j, o, lv, l, r⟩)).xp, []) := by kernel_rfl
theorem wn_6402 : callR Em3 12 wrDoneF [pt0] (hidHp0 wrF 15 (Wt.enc ⟨6, 4, key, slot, n, w, no, told, 0, rk, rn, 2, ok, on, en, j, o, lv, l, r⟩)).xp [] [0, 1, 2, 3, 4, 5, 6, 7, 8, 9, 10, 11, 12, 13, 14] = some (.bool false, (hidHp0 wrF 15 (Wt.enc ⟨6, 4, key, slot, n, w, no, told, 0, rk, rn, 2, ok, on, en, j, o, lv, l, r⟩)).xp, []) := by kernel_rfl
theorem we_6402 : callR Em3 12 wrErrF [pt0] (hidHp0 wrF 15 (Wt.enc ⟨6, 4, key, slot, n, w, no, told, 0, rk, rn, 2, ok, on, en, j, o, lv, l, r⟩)).xp [] [0, 1, 2, 3, 4, 5, 6, 7, 8, 9, 10, 11, 12, 13, 14] = some (.int .i64 no, (hidHp0 wrF 15 (Wt.enc ⟨6, 4, key, slot, n, w, no, told, 0, rk, rn, 2, ok, on, en, j, o, lv, l, r⟩)).xp, []) := by kernel_rfl
theorem wn_6321 : callR Em3 12 wrDoneF [pt0] (hidHp0 wrF 15 (Wt.enc ⟨6, 3, key, slot, n, w, no, told, 2, rk, rn, 1, ok, on, en, j, o, lv, l, r⟩)).xp [] [0, 1, 2, 3, 4, 5, 6, 7, 8, 9, 10, 11, 12, 13, 14] = some (.bool false, (hidHp0 wrF 15 (Wt.enc ⟨6, 3, key, slot, n, w, no, told, 2, rk, rn, 1, ok, on, en, j, o, lv, l, r⟩)).xp, []) := by kernel_rfl
theorem we_6321 : callR Em3 12 wrErrF [pt0] (hidHp0 wrF 15 (Wt.enc ⟨6, 3, key, slot, n, w, no, told, 2, rk, rn, 1, ok, on, en, j, o, lv, l, r⟩)).xp [] [0, 1, 2, 3, 4, 5, 6, 7, 8, 9, 10, 11, 12, 13, 14] = some (.int .i64 no, (hidHp0 wrF 15 (Wt.enc ⟨6, 3, key, slot, n, w, no, told, 2, rk, rn, 1, ok, on, en, j, o, lv, l, r⟩)).xp, []) := by kernel_rfl
theorem wn_6322 : callR Em3 12 wrDoneF [pt0] (hidHp0 wrF 15 (Wt.enc ⟨6, 3, key, slot, n, w, no, told, 2, rk, rn, 2, ok, on, en, j, o, lv, l, r⟩)).xp [] [0, 1, 2, 3, 4, 5, 6, 7, 8, 9, 10, 11, 12, 13, 14] = some (.bool false, (hidHp0 wrF 15 (Wt.enc ⟨6, 3, key, slot, n, w, no, told, 2, rk, rn, 2, ok, on, en, j, o, lv, l, r⟩)).xp, []) := by kernel_rfl
theorem we_6322 : callR Em3 12 wrErrF [pt0] (hidHp0 wrF 15 (Wt.enc ⟨6, 3, key, slot, n, w, no, told, 2, rk, rn, 2, ok, on, en, j, o, lv, l, r⟩)).xp [] [0, 1, 2, 3, 4, 5, 6, 7, 8, 9, 10, 11, 12, 13, 14] = some (.int .i64 no, (hidHp0 wrF 15 (Wt.enc ⟨6, 3, key, slot, n, w, no, told, 2, rk, rn, 2, ok, on, en, j, o, lv, l, r⟩)).xp, []) := by kernel_rfl
theorem wn_6422 : callR Em3 12 wrDoneF [pt0] (hidHp0 wrF 15 (Wt.enc ⟨6, 4, key, slot, n, w, no, told, 2, rk, rn, 2, ok, on, en, j, o, lv, l, r⟩)).xp [] [0, 1, 2, 3, 4, 5, 6, 7, 8, 9, 10, 11, 12, 13, 14] = some (.bool false, (hidHp0 wrF 15 (Wt.enc ⟨6, 4, key, slot, n, w, no, told, 2, rk, rn, 2, ok, on, en, j, o, lv, l, r⟩)).xp, []) := by kernel_rfl
theorem we_6422 : callR Em3 12 wrErrF [pt0] (hidHp0 wrF 15 (Wt.enc ⟨6, 4, key, slot, n, w, no, told, 2, rk, rn, 2, ok, on, en, j, o, lv, l, r⟩)).xp [] [0, 1, 2, 3, 4, 5, 6, 7, 8, 9, 10, 11, 12, 13, 14] = some (.int .i64 no, (hidHp0 wrF 15 (Wt.enc ⟨6, 4, key, slot, n, w, no, told, 2, rk, rn, 2, ok, on, en, j, o, lv, l, r⟩)).xp, []) := by kernel_rfl
theorem wn_7401 : callR Em3 12 wrDoneF [pt0] (hidHp0 wrF 15 (Wt.enc ⟨7, 4, key, slot, n, w, no, told, 0, rk, rn, 1, ok, on, en, j, o, lv, l, r⟩)).xp [] [0, 1, 2, 3, 4, 5, 6, 7, 8, 9, 10, 11, 12, 13, 14] = some (.bool false, (hidHp0 wrF 15 (Wt.enc ⟨7, 4, key, slot, n, w, no, told, 0, rk, rn, 1, ok, on, en, j, o, lv, l, r⟩)).xp, []) := by kernel_rfl
theorem we_7401 : callR Em3 12 wrErrF [pt0] (hidHp0 wrF 15 (Wt.enc ⟨7, 4, key, slot, n, w, no, told, 0, rk, rn, 1, ok, on, en, j, o, lv, l, r⟩)).xp [] [0, 1, 2, 3, 4, 5, 6, 7, 8, 9, 10, 11, 12, 13, 14] = some (.int .i64 no, (hidHp0 wrF 15 (Wt.enc ⟨7, 4, key, slot, n, w, no, told, 0, rk, rn, 1, ok, on, en, j, o, lv, l, r⟩)).xp, []) := by kernel_rfl
theorem wn_7402 : callR Em3 12 wrDoneF [pt0] (hidHp0 wrF 15 (Wt.enc ⟨7, 4, key, slot, n, w, no, told, 0, rk, rn, 2, ok, on, en, j, o, lv, l, r⟩)).xp [] [0, 1, 2, 3, 4, 5, 6, 7, 8, 9, 10, 11, 12, 13, 14] = some (.bool false, (hidHp0 wrF 15 (Wt.enc ⟨7, 4, key, slot, n, w, no, told, 0, rk, rn, 2, ok, on, en, j, o, lv, l, r⟩)).xp, []) := by kernel_rfl
theorem we_7402 : callR Em3 12 wrErrF [pt0] (hidHp0 wrF 15 (Wt.enc ⟨7, 4, key, slot, n, w, no, told, 0, rk, rn, 2, ok, on, en, j, o, lv, l, r⟩)).xp [] [0, 1, 2, 3, 4, 5, 6, 7, 8, 9, 10, 11, 12, 13, 14] = some (.int .i64 no, (hidHp0 wrF 15 (Wt.enc ⟨7, 4, key, slot, n, w, no, told, 0, rk, rn, 2, ok, on, en, j, o, lv, l, r⟩)).xp, []) := by kernel_rfl
theorem wn_7421 : callR Em3 12 wrDoneF [pt0] (hidHp0 wrF 15 (Wt.enc ⟨7, 4, key, slot, n, w, no, told, 2, rk, rn, 1, ok, on, en, j, o, lv, l, r⟩)).xp [] [0, 1, 2, 3, 4, 5, 6, 7, 8, 9, 10, 11, 12, 13, 14] = some (.bool false, (hidHp0 wrF 15 (Wt.enc ⟨7, 4, key, slot, n, w, no, told, 2, rk, rn, 1, ok, on, en, j, o, lv, l, r⟩)).xp, []) := by kernel_rfl
theorem we_7421 : callR Em3 12 wrErrF [pt0] (hidHp0 wrF 15 (Wt.enc ⟨7, 4, key, slot, n, w, no, told, 2, rk, rn, 1, ok, on, en, j, o, lv, l, r⟩)).xp [] [0, 1, 2, 3, 4, 5, 6, 7, 8, 9, 10, 11, 12, 13, 14] = some (.int .i64 no, (hidHp0 wrF 15 (Wt.enc ⟨7, 4, key, slot, n, w, no, told, 2, rk, rn, 1, ok, on, en, j, o, lv, l, r⟩)).xp, []) := by kernel_rfl
theorem wn_7422 : callR Em3 12 wrDoneF [pt0] (hidHp0 wrF 15 (Wt.enc ⟨7, 4, key, slot, n, w, no, told, 2, rk, rn, 2, ok, on, en, j, o, lv, l, r⟩)).xp [] [0, 1, 2, 3, 4, 5, 6, 7, 8, 9, 10, 11, 12, 13, 14] = some (.bool false, (hidHp0 wrF 15 (Wt.enc ⟨7, 4, key, slot, n, w, no, told, 2, rk, rn, 2, ok, on, en, j, o, lv, l, r⟩)).xp, []) := by kernel_rfl
theorem we_7422 : callR Em3 12 wrErrF [pt0] (hidHp0 wrF 15 (Wt.enc ⟨7, 4, key, slot, n, w, no, told, 2, rk, rn, 2, ok, on, en, j, o, lv, l, r⟩)).xp [] [0, 1, 2, 3, 4, 5, 6, 7, 8, 9, 10, 11, 12, 13, 14] = some (.int .i64 no, (hidHp0 wrF 15 (Wt.enc ⟨7, 4, key, slot, n, w, no, told, 2, rk, rn, 2, ok, on, en, j, o, lv, l, r⟩)).xp, []) := by kernel_rfl
theorem wn_8200 : callR Em3 12 wrDoneF [pt0] (hidHp0 wrF 15 (Wt.enc ⟨8, 2, key, slot, n, w, no, told, 0, rk, rn, 0, ok, on, en, j, o, lv, l, r⟩)).xp [] [0, 1, 2, 3, 4, 5, 6, 7, 8, 9, 10, 11, 12, 13, 14] = some (.bool false, (hidHp0 wrF 15 (Wt.enc ⟨8, 2, key, slot, n, w, no, told, 0, rk, rn, 0, ok, on, en, j, o, lv, l, r⟩)).xp, []) := by kernel_rfl
theorem we_8200 : callR Em3 12 wrErrF [pt0] (hidHp0 wrF 15 (Wt.enc ⟨8, 2, key, slot, n, w, no, told, 0, rk, rn, 0, ok, on, en, j, o, lv, l, r⟩)).xp [] [0, 1, 2, 3, 4, 5, 6, 7, 8, 9, 10, 11, 12, 13, 14] = some (.int .i64 no, (hidHp0 wrF 15 (Wt.enc ⟨8, 2, key, slot, n, w, no, told, 0, rk, rn, 0, ok, on, en, j, o, lv, l, r⟩)).xp, []) := by kernel_rfl
theorem wn_8210 : callR Em3 12 wrDoneF [pt0] (hidHp0 wrF 15 (Wt.enc ⟨8, 2, key, slot, n, w, no, told, 1, rk, rn, 0, ok, on, en, j, o, lv, l, r⟩)).xp [] [0, 1, 2, 3, 4, 5, 6, 7, 8, 9, 10, 11, 12, 13, 14] = some (.bool false, (hidHp0 wrF 15 (Wt.enc ⟨8, 2, key, slot, n, w, no, told, 1, rk, rn, 0, ok, on, en, j, o, lv, l, r⟩)).xp, []) := by kernel_rfl
theorem we_8210 : callR Em3 12 wrErrF [pt0] (hidHp0 wrF 15 (Wt.enc ⟨8, 2, key, slot, n, w, no, told, 1, rk, rn, 0, ok, on, en, j, o, lv, l, r⟩)).xp [] [0, 1, 2, 3, 4, 5, 6, 7, 8, 9, 10, 11, 12, 13, 14] = some (.int .i64 no, (hidHp0 wrF 15 (Wt.enc ⟨8, 2, key, slot, n, w, no, told, 1, rk, rn, 0, ok, on, en, j, o, lv, l, r⟩)).xp, []) := by kernel_rfl
theorem wn_8220 : callR Em3 12 wrDoneF [pt0] (hidHp0 wrF 15 (Wt.enc ⟨8, 2, key, slot, n, w, no, told, 2, rk, rn, 0, ok, on, en, j, o, lv, l, r⟩)).xp [] [0, 1, 2, 3, 4, 5, 6, 7, 8, 9, 10, 11, 12, 13, 14] = some (.bool false, (hidHp0 wrF 15 (Wt.enc ⟨8, 2, key, slot, n, w, no, told, 2, rk, rn, 0, ok, on, en, j, o, lv, l, r⟩)).xp, []) := by kernel_rfl
theorem we_8220 : callR Em3 12 wrErrF [pt0] (hidHp0 wrF 15 (Wt.enc ⟨8, 2, key, slot, n, w, no, told, 2, rk, rn, 0, ok, on, en, j, o, lv, l, r⟩)).xp [] [0, 1, 2, 3, 4, 5, 6, 7, 8, 9, 10, 11, 12, 13, 14] = some (.int .i64 no, (hidHp0 wrF 15 (Wt.enc ⟨8, 2, key, slot, n, w, no, told, 2, rk, rn, 0, ok, on, en, j, o, lv, l, r⟩)).xp, []) := by kernel_rfl
theorem wn_8301 : callR Em3 12 wrDoneF [pt0] (hidHp0 wrF 15 (Wt.enc ⟨8, 3, key, slot, n, w, no, told, 0, rk, rn, 1, ok, on, en, j, o, lv, l, r⟩)).xp [] [0, 1, 2, 3, 4, 5, 6, 7, 8, 9, 10, 11, 12, 13, 14] = some (.bool false, (hidHp0 wrF 15 (Wt.enc ⟨8, 3, key, slot, n, w, no, told, 0, rk, rn, 1, ok, on, en, j, o, lv, l, r⟩)).xp, []) := by kernel_rfl
theorem we_8301 : callR Em3 12 wrErrF [pt0] (hidHp0 wrF 15 (Wt.enc ⟨8, 3, key, slot, n, w, no, told, 0, rk, rn, 1, ok, on, en, j, o, lv, l, r⟩)).xp [] [0, 1, 2, 3, 4, 5, 6, 7, 8, 9, 10, 11, 12, 13, 14] = some (.int .i64 no, (hidHp0 wrF 15 (Wt.enc ⟨8, 3, key, slot, n, w, no, told, 0, rk, rn, 1, ok, on, en, j, o, lv, l, r⟩)).xp, []) := by kernel_rfl
theorem wn_8302 : callR Em3 12 wrDoneF [pt0] (hidHp0 wrF 15 (Wt.enc ⟨8, 3, key, slot, n, w, no, told, 0, rk, rn, 2, ok, on, en, j, o, lv, l, r⟩)).xp [] [0, 1, 2, 3, 4, 5, 6, 7, 8, 9, 10, 11, 12, 13, 14] = some (.bool false, (hidHp0 wrF 15 (Wt.enc ⟨8, 3, key, slot, n, w, no, told, 0, rk, rn, 2, ok, on, en, j, o, lv, l, r⟩)).xp, []) := by kernel_rfl
theorem we_8302 : callR Em3 12 wrErrF [pt0] (hidHp0 wrF 15 (Wt.enc ⟨8, 3, key, slot, n, w, no, told, 0, rk, rn, 2, ok, on, en, j, o, lv, l, r⟩)).xp [] [0, 1, 2, 3, 4, 5, 6, 7, 8, 9, 10, 11, 12, 13, 14] = some (.int .i64 no, (hidHp0 wrF 15 (Wt.enc ⟨8, 3, key, slot, n, w, no, told, 0, rk, rn, 2, ok, on, en, j, o, lv, l, r⟩)).xp, []) := by kernel_rfl
theorem wn_8402 : callR Em3 12 wrDoneF [pt0] (hidHp0 wrF 15 (Wt.enc ⟨8, 4, key, slot, n, w, no, told, 0, rk, rn, 2, ok, on, en, j, o, lv, l, r⟩)).xp [] [0, 1, 2, 3, 4, 5, 6, 7, 8, 9, 10, 11, 12, 13, 14] = some (.bool false, (hidHp0 wrF 15 (Wt.enc ⟨8, 4, key, slot, n, w, no, told, 0, rk, rn, 2, ok, on, en, j, o, lv, l, r⟩)).xp, []) := by kernel_rfl
theorem we_8402 : callR Em3 12 wrErrF [pt0] (hidHp0 wrF 15 (Wt.enc ⟨8, 4, key, slot, n, w, no, told, 0, rk, rn, 2, ok, on, en, j, o, lv, l, r⟩)).xp [] [0, 1, 2, 3, 4, 5, 6, 7, 8, 9, 10, 11, 12, 13, 14] = some (.int .i64 no, (hidHp0 wrF 15 (Wt.enc ⟨8, 4, key, slot, n, w, no, told, 0, rk, rn, 2, ok, on, en, j, o, lv, l, r⟩)).xp, []) := by kernel_rfl
theorem wn_8321 : callR Em3 12 wrDoneF [pt0] (hidHp0 wrF 15 (Wt.enc ⟨8, 3, key, slot, n, w, no, told, 2, rk, rn, 1, ok, on, en, j, o, lv, l, r⟩)).xp [] [0, 1, 2, 3, 4, 5, 6, 7, 8, 9, 10, 11, 12, 13, 14] = some (.bool false, (hidHp0 wrF 15 (Wt.enc ⟨8, 3, key, slot, n, w, no, told, 2, rk, rn, 1, ok, on, en, j, o, lv, l, r⟩)).xp, []) := by kernel_rfl
theorem we_8321 : callR Em3 12 wrErrF [pt0] (hidHp0 wrF 15 (Wt.enc ⟨8, 3, key, slot, n, w, no, told, 2, rk, rn, 1, ok, on, en, j, o, lv, l, r⟩)).xp [] [0, 1, 2, 3, 4, 5, 6, 7, 8, 9, 10, 11, 12, 13, 14] = some (.int .i64 no, (hidHp0 wrF 15 (Wt.enc ⟨8, 3, key, slot, n, w, no, told, 2, rk, rn, 1, ok, on, en, j, o, lv, l, r⟩)).xp, []) := by kernel_rfl
theorem wn_8322 : callR Em3 12 wrDoneF [pt0] (hidHp0 wrF 15 (Wt.enc ⟨8, 3, key, slot, n, w, no, told, 2, rk, rn, 2, ok, on, en, j, o, lv, l, r⟩)).xp [] [0, 1, 2, 3, 4, 5, 6, 7, 8, 9, 10, 11, 12, 13, 14] = some (.bool false, (hidHp0 wrF 15 (Wt.enc ⟨8, 3, key, slot, n, w, no, told, 2, rk, rn, 2, ok, on, en, j, o, lv, l, r⟩)).xp, []) := by kernel_rfl
theorem we_8322 : callR Em3 12 wrErrF [pt0] (hidHp0 wrF 15 (Wt.enc ⟨8, 3, key, slot, n, w, no, told, 2, rk, rn, 2, ok, on, en, j, o, lv, l, r⟩)).xp [] [0, 1, 2, 3, 4, 5, 6, 7, 8, 9, 10, 11, 12, 13, 14] = some (.int .i64 no, (hidHp0 wrF 15 (Wt.enc ⟨8, 3, key, slot, n, w, no, told, 2, rk, rn, 2, ok, on, en, j, o, lv, l, r⟩)).xp, []) := by kernel_rfl
theorem wn_8422 : callR Em3 12 wrDoneF [pt0] (hidHp0 wrF 15 (Wt.enc ⟨8, 4, key, slot, n, w, no, told, 2, rk, rn, 2, ok, on, en, j, o, lv, l, r⟩)).xp [] [0, 1, 2, 3, 4, 5, 6, 7, 8, 9, 10, 11, 12, 13, 14] = some (.bool false, (hidHp0 wrF 15 (Wt.enc ⟨8, 4, key, slot, n, w, no, told, 2, rk, rn, 2, ok, on, en, j, o, lv, l, r⟩)).xp, []) := by kernel_rfl
theorem we_8422 : callR Em3 12 wrErrF [pt0] (hidHp0 wrF 15 (Wt.enc ⟨8, 4, key, slot, n, w, no, told, 2, rk, rn, 2, ok, on, en, j, o, lv, l, r⟩)).xp [] [0, 1, 2, 3, 4, 5, 6, 7, 8, 9, 10, 11, 12, 13, 14] = some (.int .i64 no, (hidHp0 wrF 15 (Wt.enc ⟨8, 4, key, slot, n, w, no, told, 2, rk, rn, 2, ok, on, en, j, o, lv, l, r⟩)).xp, []) := by kernel_rfl
theorem wn_9200 : callR Em3 12 wrDoneF [pt0] (hidHp0 wrF 15 (Wt.enc ⟨9, 2, key, slot, n, w, no, told, 0, rk, rn, 0, ok, on, en, j, o, lv, l, r⟩)).xp [] [0, 1, 2, 3, 4, 5, 6, 7, 8, 9, 10, 11, 12, 13, 14] = some (.bool true, (hidHp0 wrF 15 (Wt.enc ⟨9, 2, key, slot, n, w, no, told, 0, rk, rn, 0, ok, on, en, j, o, lv, l, r⟩)).xp, []) := by kernel_rfl
theorem we_9200 : callR Em3 12 wrErrF [pt0] (hidHp0 wrF 15 (Wt.enc ⟨9, 2, key, slot, n, w, no, told, 0, rk, rn, 0, ok, on, en, j, o, lv, l, r⟩)).xp [] [0, 1, 2, 3, 4, 5, 6, 7, 8, 9, 10, 11, 12, 13, 14] = some (.int .i64 no, (hidHp0 wrF 15 (Wt.enc ⟨9, 2, key, slot, n, w, no, told, 0, rk, rn, 0, ok, on, en, j, o, lv, l, r⟩)).xp, []) := by kernel_rfl
theorem wn_9210 : callR Em3 12 wrDoneF [pt0] (hidHp0 wrF 15 (Wt.enc ⟨9, 2, key, slot, n, w, no, told, 1, rk, rn, 0, ok, on, en, j, o, lv, l, r⟩)).xp [] [0, 1, 2, 3, 4, 5, 6, 7, 8, 9, 10, 11, 12, 13, 14] = some (.bool true, (hidHp0 wrF 15 (Wt.enc ⟨9, 2, key, slot, n, w, no, told, 1, rk, rn, 0, ok, on, en, j, o, lv, l, r⟩)).xp, []) := by kernel_rfl
theorem we_9210 : callR Em3 12 wrErrF [pt0] (hidHp0 wrF 15 (Wt.enc ⟨9, 2, key, slot, n, w, no, told, 1, rk, rn, 0, ok, on, en, j, o, lv, l, r⟩)).xp [] [0, 1, 2, 3, 4, 5, 6, 7, 8, 9, 10, 11, 12, 13, 14] = some (.int .i64 no, (hidHp0 wrF 15 (Wt.enc ⟨9, 2, key, slot, n, w, no, told, 1, rk, rn, 0, ok, on, en, j, o, lv, l, r⟩)).xp, []) := by kernel_rfl
theorem wn_9220 : callR Em3 12 wrDoneF [pt0] (hidHp0 wrF 15 (Wt.enc ⟨9, 2, key, slot, n, w, no, told, 2, rk, rn, 0, ok, on, en, j, o, lv, l, r⟩)).xp [] [0, 1, 2, 3, 4, 5, 6, 7, 8, 9, 10, 11, 12, 13, 14] = some (.bool true, (hidHp0 wrF 15 (Wt.enc ⟨9, 2, key, slot, n, w, no, told, 2, rk, rn, 0, ok, on, en, j, o, lv, l, r⟩)).xp, []) := by kernel_rfl
theorem we_9220 : callR Em3 12 wrErrF [pt0] (hidHp0 wrF 15 (Wt.enc ⟨9, 2, key, slot, n, w, no, told, 2, rk, rn, 0, ok, on, en, j, o, lv, l, r⟩)).xp [] [0, 1, 2, 3, 4, 5, 6, 7, 8, 9, 10, 11, 12, 13, 14] = some (.int .i64 no, (hidHp0 wrF 15 (Wt.enc ⟨9, 2, key, slot, n, w, no, told, 2, rk, rn, 0, ok, on, en, j, o, lv, l, r⟩)).xp, []) := by kernel_rfl
theorem wn_9301 : callR Em3 12 wrDoneF [pt0] (hidHp0 wrF 15 (Wt.enc ⟨9, 3, key, slot, n, w, no, told, 0, rk, rn, 1, ok, on, en, j, o, lv, l, r⟩)).xp [] [0, 1, 2, 3, 4, 5, 6, 7, 8, 9, 10, 11, 12, 13, 14] = some (.bool true, (hidHp0 wrF 15 (Wt.enc ⟨9, 3, key, slot, n, w, no, told, 0, rk, rn, 1, ok, on, en, j, o, lv, l, r⟩)).xp, []) := by kernel_rfl
theorem we_9301 : callR Em3 12 wrErrF [pt0] (hidHp0 wrF 15 (Wt.enc ⟨9, 3, key, slot, n, w, no, told, 0, rk, rn, 1, ok, on, en, j, o, lv, l, r⟩)).xp [] [0, 1, 2, 3, 4, 5, 6, 7, 8, 9, 10, 11, 12, 13, 14] = some (.int .i64 no, (hidHp0 wrF 15 (Wt.enc ⟨9, 3, key, slot, n, w, no, told, 0, rk, rn, 1, ok, on, en, j, o, lv, l, r⟩)).xp, []) := by kernel_rfl
theorem wn_9302 : callR Em3 12 wrDoneF [pt0] (hidHp0 wrF 15 (Wt.enc ⟨9, 3, key, slot, n, w, no, told, 0, rk, rn, 2, ok, on, en, j, o, lv, l, r⟩)).xp [] [0, 1, 2, 3, 4, 5, 6, 7, 8, 9, 10, 11, 12, 13, 14] = some (.bool true, (hidHp0 wrF 15 (Wt.enc ⟨9, 3, key, slot, n, w, no, told, 0, rk, rn, 2, ok, on, en, j, o, lv, l, r⟩)).xp, []) := by kernel_rfl
theorem we_9302 : callR Em3 12 wrErrF [pt0] (hidHp0 wrF 15 (Wt.enc ⟨9, 3, key, slot, n, w, no, told, 0, rk, rn, 2, ok, on, en, j, o, lv, l, r⟩)).xp [] [0, 1, 2, 3, 4, 5, 6, 7, 8, 9, 10, 11, 12, 13, 14] = some (.int .i64 no, (hidHp0 wrF 15 (Wt.enc ⟨9, 3, key, slot, n, w, no, told, 0, rk, rn, 2, ok, on, en, j, o, lv, l, r⟩)).xp, []) := by kernel_rfl
theorem wn_9402 : callR Em3 12 wrDoneF [pt0] (hidHp0 wrF 15 (Wt.enc ⟨9, 4, key, slot, n, w, no, told, 0, rk, rn, 2, ok, on, en, j, o, lv, l, r⟩)).xp [] [0, 1, 2, 3, 4, 5, 6, 7, 8, 9, 10, 11, 12, 13, 14] = some (.bool true, (hidHp0 wrF 15 (Wt.enc ⟨9, 4, key, slot, n, w, no, told, 0, rk, rn, 2, ok, on, en, j, o, lv, l, r⟩)).xp, []) := by kernel_rfl
theorem we_9402 : callR Em3 12 wrErrF [pt0] (hidHp0 wrF 15 (Wt.enc ⟨9, 4, key, slot, n, w, no, told, 0, rk, rn, 2, ok, on, en, j, o, lv, l, r⟩)).xp [] [0, 1, 2, 3, 4, 5, 6, 7, 8, 9, 10, 11, 12, 13, 14] = some (.int .i64 no, (hidHp0 wrF 15 (Wt.enc ⟨9, 4, key, slot, n, w, no, told, 0, rk, rn, 2, ok, on, en, j, o, lv, l, r⟩)).xp, []) := by kernel_rfl
theorem wn_9321 : callR Em3 12 wrDoneF [pt0] (hidHp0 wrF 15 (Wt.enc ⟨9, 3, key, slot, n, w, no, told, 2, rk, rn, 1, ok, on, en, j, o, lv, l, r⟩)).xp [] [0, 1, 2, 3, 4, 5, 6, 7, 8, 9, 10, 11, 12, 13, 14] = some (.bool true, (hidHp0 wrF 15 (Wt.enc ⟨9, 3, key, slot, n, w, no, told, 2, rk, rn, 1, ok, on, en, j, o, lv, l, r⟩)).xp, []) := by kernel_rfl
theorem we_9321 : callR Em3 12 wrErrF [pt0] (hidHp0 wrF 15 (Wt.enc ⟨9, 3, key, slot, n, w, no, told, 2, rk, rn, 1, ok, on, en, j, o, lv, l, r⟩)).xp [] [0, 1, 2, 3, 4, 5, 6, 7, 8, 9, 10, 11, 12, 13, 14] = some (.int .i64 no, (hidHp0 wrF 15 (Wt.enc ⟨9, 3, key, slot, n, w, no, told, 2, rk, rn, 1, ok, on, en, j, o, lv, l, r⟩)).xp, []) := by kernel_rfl
theorem wn_9322 : callR Em3 12 wrDoneF [pt0] (hidHp0 wrF 15 (Wt.enc ⟨9, 3, key, slot, n, w, no, told, 2, rk, rn, 2, ok, on, en, j, o, lv, l, r⟩)).xp [] [0, 1, 2, 3, 4, 5, 6, 7, 8, 9, 10, 11, 12, 13, 14] = some (.bool true, (hidHp0 wrF 15 (Wt.enc ⟨9, 3, key, slot, n, w, no, told, 2, rk, rn, 2, ok, on, en, j, o, lv, l, r⟩)).xp, []) := by kernel_rfl
theorem we_9322 : callR Em3 12 wrErrF [pt0] (hidHp0 wrF 15 (Wt.enc ⟨9, 3, key, slot, n, w, no, told, 2, rk, rn, 2, ok, on, en, j, o, lv, l, r⟩)).xp [] [0, 1, 2, 3, 4, 5, 6, 7, 8, 9, 10, 11, 12, 13, 14] = some (.int .i64 no, (hidHp0 wrF 15 (Wt.enc ⟨9, 3, key, slot, n, w, no, told, 2, rk, rn, 2, ok, on, en, j, o, lv, l, r⟩)).xp, []) := by kernel_rfl
theorem wn_9422 : callR Em3 12 wrDoneF [pt0] (hidHp0 wrF 15 (Wt.enc ⟨9, 4, key, slot, n, w, no, told, 2, rk, rn, 2, ok, on, en, j, o, lv, l, r⟩)).xp [] [0, 1, 2, 3, 4, 5, 6, 7, 8, 9, 10, 11, 12, 13, 14] = some (.bool true, (hidHp0 wrF 15 (Wt.enc ⟨9, 4, key, slot, n, w, no, told, 2, rk, rn, 2, ok, on, en, j, o, lv, l, r⟩)).xp, []) := by kernel_rfl
theorem we_9422 : callR Em3 12 wrErrF [pt0] (hidHp0 wrF 15 (Wt.enc ⟨9, 4, key, slot, n, w, no, told, 2, rk, rn, 2, ok, on, en, j, o, lv, l, r⟩)).xp [] [0, 1, 2, 3, 4, 5, 6, 7, 8, 9, 10, 11, 12, 13, 14] = some (.int .i64 no, (hidHp0 wrF 15 (Wt.enc ⟨9, 4, key, slot, n, w, no, told, 2, rk, rn, 2, ok, on, en, j, o, lv, l, r⟩)).xp, []) := by kernel_rfl
theorem wn_9000 : callR Em3 12 wrDoneF [pt0] (hidHp0 wrF 15 (Wt.enc ⟨9, 0, key, slot, n, w, no, told, 0, rk, rn, 0, ok, on, en, j, o, lv, l, r⟩)).xp [] [0, 1, 2, 3, 4, 5, 6, 7, 8, 9, 10, 11, 12, 13, 14] = some (.bool true, (hidHp0 wrF 15 (Wt.enc ⟨9, 0, key, slot, n, w, no, told, 0, rk, rn, 0, ok, on, en, j, o, lv, l, r⟩)).xp, []) := by kernel_rfl
theorem we_9000 : callR Em3 12 wrErrF [pt0] (hidHp0 wrF 15 (Wt.enc ⟨9, 0, key, slot, n, w, no, told, 0, rk, rn, 0, ok, on, en, j, o, lv, l, r⟩)).xp [] [0, 1, 2, 3, 4, 5, 6, 7, 8, 9, 10, 11, 12, 13, 14] = some (.int .i64 no, (hidHp0 wrF 15 (Wt.enc ⟨9, 0, key, slot, n, w, no, told, 0, rk, rn, 0, ok, on, en, j, o, lv, l, r⟩)).xp, []) := by kernel_rfl
theorem wn_9100 : callR Em3 12 wrDoneF [pt0] (hidHp0 wrF 15 (Wt.enc ⟨9, 1, key, slot, n, w, no, told, 0, rk, rn, 0, ok, on, en, j, o, lv, l, r⟩)).xp [] [0, 1, 2, 3, 4, 5, 6, 7, 8, 9, 10, 11, 12, 13, 14] = some (.bool true, (hidHp0 wrF 15 (Wt.enc ⟨9, 1, key, slot, n, w, no, told, 0, rk, rn, 0, ok, on, en, j, o, lv, l, r⟩)).xp, []) := by kernel_rfl
theorem we_9100 : callR Em3 12 wrErrF [pt0] (hidHp0 wrF 15 (Wt.enc ⟨9, 1, key, slot, n, w, no, told, 0, rk, rn, 0, ok, on, en, j, o, lv, l, r⟩)).xp [] [0, 1, 2, 3, 4, 5, 6, 7, 8, 9, 10, 11, 12, 13, 14] = some (.int .i64 no, (hidHp0 wrF 15 (Wt.enc ⟨9, 1, key, slot, n, w, no, told, 0, rk, rn, 0, ok, on, en, j, o, lv, l, r⟩)).xp, []) := by kernel_rfl
end
theorem z15' {tl : List Nat} : ∀ k, k < 15 → (0 :: 1 :: 2 :: 3 :: 4 :: 5 :: 6 :: 7 :: 8 :: 9 :: 10 :: 11 :: 12 :: 13 :: 14 :: tl : List Nat).getD k 0 = k := fun k hk => by
  match k, hk with
  | 0, _ | 1, _ | 2, _ | 3, _ | 4, _ | 5, _ | 6, _ | 7, _ | 8, _ | 9, _ | 10, _ | 11, _ | 12, _ | 13, _ | 14, _ => rfl
theorem wr_ask {f : FuncId} {r : Wt} {v : Value} {ds : List Dec} (h : callR Em3 12 f [pt0] (hidHp0 wrF 15 r.enc).xp ds [0, 1, 2, 3, 4, 5, 6, 7, 8, 9, 10, 11, 12, 13, 14] = some (v, (hidHp0 wrF 15 r.enc).xp, [])) (hv : isDead v = false) : CallC Tryz.prog f [pt0] (hidHp0 wrF 15 r.enc) v (hidHp0 wrF 15 r.enc) :=
  CallC.xp (CallC.of_call Em3ok h (by simp) hv z15') hid0_keysIn hid0_keysIn (wrF_okX0 _) (wrF_okX0 _)
theorem wrDone_C (r : Wt) (hg : r.good) : CallC Tryz.prog wrDoneF [pt0] (hidHp0 wrF 15 r.enc) (.bool r.dn) (hidHp0 wrF 15 r.enc) := by
  obtain ⟨pl, _, _, _, _, _, _, _⟩ := hg
  obtain ⟨ph, q, key, slot, n, w, no, told, ra, rk, rn, oa, ok, on, en, j, o, lv, l, r⟩ := r
  simp only [Wt.place, oaq] at pl
  rcases pl with ⟨h, rfl, rfl, rfl⟩ | ⟨rfl | rfl, rfl, rfl | rfl, rfl⟩ | ⟨rfl | rfl, rfl, rfl | rfl, rfl⟩ | ⟨rfl, rfl | rfl, ⟨rfl, rfl⟩ | ⟨rfl, rfl | rfl⟩⟩ | ⟨rfl, rfl, rfl | rfl, rfl | rfl⟩ | ⟨rfl | rfl, ⟨rfl, rfl, rfl | rfl | rfl⟩ | ⟨rfl | rfl, ⟨rfl, rfl⟩ | ⟨rfl, rfl | rfl⟩⟩⟩ | ⟨rfl, hq, rfl, rfl⟩
  · match ph, h with
    | 0, _ => exact wr_ask (wn_0100 _ _ _ _ _ _ _ _ _ _ _ _ _ _ _ _) rfl
    | 1, _ => exact wr_ask (wn_1100 _ _ _ _ _ _ _ _ _ _ _ _ _ _ _ _) rfl
  · exact wr_ask (wn_2100 _ _ _ _ _ _ _ _ _ _ _ _ _ _ _ _) rfl
  · exact wr_ask (wn_2120 _ _ _ _ _ _ _ _ _ _ _ _ _ _ _ _) rfl
  · exact wr_ask (wn_5100 _ _ _ _ _ _ _ _ _ _ _ _ _ _ _ _) rfl
  · exact wr_ask (wn_5120 _ _ _ _ _ _ _ _ _ _ _ _ _ _ _ _) rfl
  · exact wr_ask (wn_3110 _ _ _ _ _ _ _ _ _ _ _ _ _ _ _ _) rfl
  · exact wr_ask (wn_3120 _ _ _ _ _ _ _ _ _ _ _ _ _ _ _ _) rfl
  · exact wr_ask (wn_4110 _ _ _ _ _ _ _ _ _ _ _ _ _ _ _ _) rfl
  · exact wr_ask (wn_4120 _ _ _ _ _ _ _ _ _ _ _ _ _ _ _ _) rfl
  · exact wr_ask (wn_6301 _ _ _ _ _ _ _ _ _ _ _ _ _ _ _ _) rfl
  · exact wr_ask (wn_6302 _ _ _ _ _ _ _ _ _ _ _ _ _ _ _ _) rfl
  · exact wr_ask (wn_6402 _ _ _ _ _ _ _ _ _ _ _ _ _ _ _ _) rfl
  · exact wr_ask (wn_6321 _ _ _ _ _ _ _ _ _ _ _ _ _ _ _ _) rfl
  · exact wr_ask (wn_6322 _ _ _ _ _ _ _ _ _ _ _ _ _ _ _ _) rfl
  · exact wr_ask (wn_6422 _ _ _ _ _ _ _ _ _ _ _ _ _ _ _ _) rfl
  · exact wr_ask (wn_7401 _ _ _ _ _ _ _ _ _ _ _ _ _ _ _ _) rfl
  · exact wr_ask (wn_7402 _ _ _ _ _ _ _ _ _ _ _ _ _ _ _ _) rfl
  · exact wr_ask (wn_7421 _ _ _ _ _ _ _ _ _ _ _ _ _ _ _ _) rfl
  · exact wr_ask (wn_7422 _ _ _ _ _ _ _ _ _ _ _ _ _ _ _ _) rfl
  · exact wr_ask (wn_8200 _ _ _ _ _ _ _ _ _ _ _ _ _ _ _ _) rfl
  · exact wr_ask (wn_8210 _ _ _ _ _ _ _ _ _ _ _ _ _ _ _ _) rfl
  · exact wr_ask (wn_8220 _ _ _ _ _ _ _ _ _ _ _ _ _ _ _ _) rfl
  · exact wr_ask (wn_8301 _ _ _ _ _ _ _ _ _ _ _ _ _ _ _ _) rfl
  · exact wr_ask (wn_8302 _ _ _ _ _ _ _ _ _ _ _ _ _ _ _ _) rfl
  · exact wr_ask (wn_8402 _ _ _ _ _ _ _ _ _ _ _ _ _ _ _ _) rfl
  · exact wr_ask (wn_8321 _ _ _ _ _ _ _ _ _ _ _ _ _ _ _ _) rfl
  · exact wr_ask (wn_8322 _ _ _ _ _ _ _ _ _ _ _ _ _ _ _ _) rfl
  · exact wr_ask (wn_8422 _ _ _ _ _ _ _ _ _ _ _ _ _ _ _ _) rfl
  · exact wr_ask (wn_9200 _ _ _ _ _ _ _ _ _ _ _ _ _ _ _ _) rfl
  · exact wr_ask (wn_9210 _ _ _ _ _ _ _ _ _ _ _ _ _ _ _ _) rfl
  · exact wr_ask (wn_9220 _ _ _ _ _ _ _ _ _ _ _ _ _ _ _ _) rfl
  · exact wr_ask (wn_9301 _ _ _ _ _ _ _ _ _ _ _ _ _ _ _ _) rfl
  · exact wr_ask (wn_9302 _ _ _ _ _ _ _ _ _ _ _ _ _ _ _ _) rfl
  · exact wr_ask (wn_9402 _ _ _ _ _ _ _ _ _ _ _ _ _ _ _ _) rfl
  · exact wr_ask (wn_9321 _ _ _ _ _ _ _ _ _ _ _ _ _ _ _ _) rfl
  · exact wr_ask (wn_9322 _ _ _ _ _ _ _ _ _ _ _ _ _ _ _ _) rfl
  · exact wr_ask (wn_9422 _ _ _ _ _ _ _ _ _ _ _ _ _ _ _ _) rfl
  · match q, hq with
    | 0, _ => exact wr_ask (wn_9000 _ _ _ _ _ _ _ _ _ _ _ _ _ _ _ _) rfl
    | 1, _ => exact wr_ask (wn_9100 _ _ _ _ _ _ _ _ _ _ _ _ _ _ _ _) rfl
theorem wrErr_C (r : Wt) (hg : r.good) : CallC Tryz.prog wrErrF [pt0] (hidHp0 wrF 15 r.enc) (.int .i64 r.no) (hidHp0 wrF 15 r.enc) := by
  obtain ⟨pl, _, _, _, _, _, _, _⟩ := hg
  obtain ⟨ph, q, key, slot, n, w, no, told, ra, rk, rn, oa, ok, on, en, j, o, lv, l, r⟩ := r
  simp only [Wt.place, oaq] at pl
  rcases pl with ⟨h, rfl, rfl, rfl⟩ | ⟨rfl | rfl, rfl, rfl | rfl, rfl⟩ | ⟨rfl | rfl, rfl, rfl | rfl, rfl⟩ | ⟨rfl, rfl | rfl, ⟨rfl, rfl⟩ | ⟨rfl, rfl | rfl⟩⟩ | ⟨rfl, rfl, rfl | rfl, rfl | rfl⟩ | ⟨rfl | rfl, ⟨rfl, rfl, rfl | rfl | rfl⟩ | ⟨rfl | rfl, ⟨rfl, rfl⟩ | ⟨rfl, rfl | rfl⟩⟩⟩ | ⟨rfl, hq, rfl, rfl⟩
  · match ph, h with
    | 0, _ => exact wr_ask (we_0100 _ _ _ _ _ _ _ _ _ _ _ _ _ _ _ _) rfl
    | 1, _ => exact wr_ask (we_1100 _ _ _ _ _ _ _ _ _ _ _ _ _ _ _ _) rfl
  · exact wr_ask (we_2100 _ _ _ _ _ _ _ _ _ _ _ _ _ _ _ _) rfl
  · exact wr_ask (we_2120 _ _ _ _ _ _ _ _ _ _ _ _ _ _ _ _) rfl
  · exact wr_ask (we_5100 _ _ _ _ _ _ _ _ _ _ _ _ _ _ _ _) rfl
  · exact wr_ask (we_5120 _ _ _ _ _ _ _ _ _ _ _ _ _ _ _ _) rfl
  · exact wr_ask (we_3110 _ _ _ _ _ _ _ _ _ _ _ _ _ _ _ _) rfl
  · exact wr_ask (we_3120 _ _ _ _ _ _ _ _ _ _ _ _ _ _ _ _) rfl
  · exact wr_ask (we_4110 _ _ _ _ _ _ _ _ _ _ _ _ _ _ _ _) rfl
  · exact wr_ask (we_4120 _ _ _ _ _ _ _ _ _ _ _ _ _ _ _ _) rfl
  · exact wr_ask (we_6301 _ _ _ _ _ _ _ _ _ _ _ _ _ _ _ _) rfl
  · exact wr_ask (we_6302 _ _ _ _ _ _ _ _ _ _ _ _ _ _ _ _) rfl
  · exact wr_ask (we_6402 _ _ _ _ _ _ _ _ _ _ _ _ _ _ _ _) rfl
  · exact wr_ask (we_6321 _ _ _ _ _ _ _ _ _ _ _ _ _ _ _ _) rfl
  · exact wr_ask (we_6322 _ _ _ _ _ _ _ _ _ _ _ _ _ _ _ _) rfl
  · exact wr_ask (we_6422 _ _ _ _ _ _ _ _ _ _ _ _ _ _ _ _) rfl
  · exact wr_ask (we_7401 _ _ _ _ _ _ _ _ _ _ _ _ _ _ _ _) rfl
  · exact wr_ask (we_7402 _ _ _ _ _ _ _ _ _ _ _ _ _ _ _ _) rfl
  · exact wr_ask (we_7421 _ _ _ _ _ _ _ _ _ _ _ _ _ _ _ _) rfl
  · exact wr_ask (we_7422 _ _ _ _ _ _ _ _ _ _ _ _ _ _ _ _) rfl
  · exact wr_ask (we_8200 _ _ _ _ _ _ _ _ _ _ _ _ _ _ _ _) rfl
  · exact wr_ask (we_8210 _ _ _ _ _ _ _ _ _ _ _ _ _ _ _ _) rfl
  · exact wr_ask (we_8220 _ _ _ _ _ _ _ _ _ _ _ _ _ _ _ _) rfl
  · exact wr_ask (we_8301 _ _ _ _ _ _ _ _ _ _ _ _ _ _ _ _) rfl
  · exact wr_ask (we_8302 _ _ _ _ _ _ _ _ _ _ _ _ _ _ _ _) rfl
  · exact wr_ask (we_8402 _ _ _ _ _ _ _ _ _ _ _ _ _ _ _ _) rfl
  · exact wr_ask (we_8321 _ _ _ _ _ _ _ _ _ _ _ _ _ _ _ _) rfl
  · exact wr_ask (we_8322 _ _ _ _ _ _ _ _ _ _ _ _ _ _ _ _) rfl
  · exact wr_ask (we_8422 _ _ _ _ _ _ _ _ _ _ _ _ _ _ _ _) rfl
  · exact wr_ask (we_9200 _ _ _ _ _ _ _ _ _ _ _ _ _ _ _ _) rfl
  · exact wr_ask (we_9210 _ _ _ _ _ _ _ _ _ _ _ _ _ _ _ _) rfl
  · exact wr_ask (we_9220 _ _ _ _ _ _ _ _ _ _ _ _ _ _ _ _) rfl
  · exact wr_ask (we_9301 _ _ _ _ _ _ _ _ _ _ _ _ _ _ _ _) rfl
  · exact wr_ask (we_9302 _ _ _ _ _ _ _ _ _ _ _ _ _ _ _ _) rfl
  · exact wr_ask (we_9402 _ _ _ _ _ _ _ _ _ _ _ _ _ _ _ _) rfl
  · exact wr_ask (we_9321 _ _ _ _ _ _ _ _ _ _ _ _ _ _ _ _) rfl
  · exact wr_ask (we_9322 _ _ _ _ _ _ _ _ _ _ _ _ _ _ _ _) rfl
  · exact wr_ask (we_9422 _ _ _ _ _ _ _ _ _ _ _ _ _ _ _ _) rfl
  · match q, hq with
    | 0, _ => exact wr_ask (we_9000 _ _ _ _ _ _ _ _ _ _ _ _ _ _ _ _) rfl
    | 1, _ => exact wr_ask (we_9100 _ _ _ _ _ _ _ _ _ _ _ _ _ _ _ _) rfl
/-! One that is made -/
def wrHp0 (r : Wt) : Hp := (hidHp0 wrF 15 r.enc).xp
open Dec in
section
variable (c : Cfg) (h key : Int)
theorem wm_k1 : callR Em3 12 wrNewF [c.v, .int .u64 h, .int .i64 key] ⟨[], 0, []⟩ [t, Dec.l] [1, 901, 902, 903, 904, 905, 906, 907, 908, 909, 910, 911, 912, 913, 914] = some (pt0, wrHp0 (wrNot h 5), [Wd h, decide (key < 0) = true]) := by kernel_rfl
theorem wm_k2 : callR Em3 12 wrNewF [c.v, .int .u64 h, .int .i64 key] ⟨[], 0, []⟩ [f, t] [1, 901, 902, 903, 904, 905, 906, 907, 908, 909, 910, 911, 912, 913, 914] = some (pt0, wrHp0 (wrNot h 5), [Wd h, decide (key < 0) = false, decide (key ≥ c.k) = true]) := by kernel_rfl
theorem wm_s : callR Em3 12 wrNewF [c.v, .int .u64 h, .int .i64 key] ⟨[], 0, []⟩ [f, f, t] [1, 901, 902, 903, 904, 905, 906, 907, 908, 909, 910, 911, 912, 913, 914] = some (pt0, wrHp0 (wrNot h 2), [Wd h, decide (key < 0) = false, decide (key ≥ c.k) = false, (!ofOk h c.s) = true]) := by kernel_rfl
theorem wm_ok : callR Em3 12 wrNewF [c.v, .int .u64 h, .int .i64 key] ⟨[], 0, []⟩ [f, f, f, Dec.l] [6, 5, 3, 4, 904, 905, 906, 907, 908, 909, 910, 911, 912, 913, 914] = some (pt0, wrHp0 (wrNew h (if ofOk h c.s = true then tkS h else 0) key), [Wd h, decide (key < 0) = false, decide (key ≥ c.k) = false, (!ofOk h c.s) = false, (0 + 1) * 8 ≤ 140737488355328, 0 + 1 ≤ 9223372036854775807, Wd h]) := by kernel_rfl
end
theorem wrNew_C (c : Cfg) (h key : Int) (hh : Wd h) : CallC Tryz.prog wrNewF [c.v, .int .u64 h, .int .i64 key] ⟨[], 0, []⟩ pt0 (hidHp0 wrF 15 (wrOf c h key).enc) := by
  refine CallC.xp (hp := ⟨[], 0, []⟩) ?_ rfl hid0_keysIn rfl (wrF_okX0 _)
  show CallC Tryz.prog wrNewF [c.v, .int .u64 h, .int .i64 key] ⟨[], 0, []⟩ pt0 (wrHp0 (wrOf c h key))
  unfold wrOf
  by_cases k1 : key < 0
  · rw [if_pos k1]
    exact CallC.of_call Em3ok (wm_k1 c h key) (pcs_of ⟨hh, decide_eq_true k1, trivial⟩) rfl (z0L _)
  rw [if_neg k1]
  by_cases k2 : key ≥ c.k
  · rw [if_pos k2]
    exact CallC.of_call Em3ok (wm_k2 c h key) (pcs_of ⟨hh, decide_eq_false k1, decide_eq_true k2, trivial⟩) rfl (z0L _)
  rw [if_neg k2]
  cases hk : ofOk h c.s with
  | true =>
    have := CallC.of_call Em3ok (wm_ok c h key) (pcs_of ⟨hh, decide_eq_false k1, decide_eq_false k2, by rw [hk]; rfl, by omega, by omega, hh, trivial⟩) rfl (z0L _)
    rw [hk] at this
    exact this
  | false =>
    exact CallC.of_call Em3ok (wm_s c h key) (pcs_of ⟨hh, decide_eq_false k1, decide_eq_false k2, by rw [hk]; rfl, trivial⟩) rfl (z0L _)
/-! As contracts -/
/-- That what is hidden is a write. -/
def isWt (x : Hid) : Prop := x = (Wt.dec x).enc
abbrev gWs : List Value → Hp → Option (Value × Hp × List Prop) := gHid wrF 15 (fun _ _ _ => .tuple ⟨[]⟩) (fun x m _ => (wrSt (.dec x) m).enc) (fun x m _ => wrMe (.dec x) m) (fun x m rest => rest = [] ∧ isWt x ∧ wrGood (.dec x) m)
abbrev gWdn : List Value → Hp → Option (Value × Hp × List Prop) := gAsk wrF 15 (fun x _ => .bool (Wt.dec x).dn) (fun x rest => rest = [] ∧ isWt x ∧ (Wt.dec x).good)
abbrev gWer : List Value → Hp → Option (Value × Hp × List Prop) := gAsk wrF 15 (fun x _ => .int .i64 (Wt.dec x).no) (fun x rest => rest = [] ∧ isWt x ∧ (Wt.dec x).good)
abbrev gWnw : List Value → Hp → Option (Value × Hp × List Prop) := gMade wrF 15 (fun a => (wrOf (cfgV (a.getD 0 undef)) (intV (a.getD 1 undef)) (intV (a.getD 2 undef))).enc) (fun a => ∃ c h k, a = [Cfg.v c, .int .u64 h, .int .i64 k] ∧ Wd h)
theorem gWs_ok : ∀ args hp v hp' pc, gWs args hp = some (v, hp', pc) → ∀ ds, CallOk Tryz.prog wrStepF args hp ⟨v, hp', ds, pc⟩ :=
  gHid_ok (enters (fn := Tryz.f15) (by kernel_rfl) (by kernel_rfl) rfl) (fun _ _ _ => rfl) fun x m rest h => by
    obtain ⟨rfl, h1, h2⟩ := h
    have := wrStep_C _ _ h2
    unfold wrOut at this
    rw [← h1] at this
    exact this
noncomputable def Ev1 : Env := (((Em3.add wrStepF gWs).add wrDoneF gWdn).add wrErrF gWer).add wrNewF gWnw
theorem Ev1ok : EnvOk Ev1 :=
  (((Em3ok.add gWs_ok).add (gAsk_ok (enters (fn := Tryz.f22) (by kernel_rfl) (by kernel_rfl) rfl) (fun _ _ => rfl) fun x rest h => by
    obtain ⟨rfl, h1, h2⟩ := h
    have := wrDone_C _ h2
    rw [← h1] at this
    exact this)).add (gAsk_ok (enters (fn := Tryz.f18) (by kernel_rfl) (by kernel_rfl) rfl) (fun _ _ => rfl) fun x rest h => by
    obtain ⟨rfl, h1, h2⟩ := h
    have := wrErr_C _ h2
    rw [← h1] at this
    exact this)).add (gMade_ok (enters (fn := Tryz.f11) (by kernel_rfl) (by kernel_rfl) rfl) fun args h => by
    obtain ⟨c, h, k, rfl, hh⟩ := h
    exact wrNew_C c h k hh)
/-! What is kept -/
theorem rowOk_oth {w k s : Int} (h : ¬ othL w k s = []) (a b : Nat) : rowOk 1 a b (othL w k s) := ⟨oth_len _ _ _, .inl ⟨rfl, getD_nil h⟩⟩
theorem rowOk_next {a k n : Nat} {l : List Int} (h : rowOk a k n l) (hz : ¬ lenS l.length n a - 1 = 0) : rowOk 2 (nxtS k a) (lenS l.length n a - 1) l := by
  obtain ⟨h12, ⟨rfl, h1⟩ | ⟨rfl, h1, h2⟩⟩ := h
  · simp only [lenS, nxtS] at hz ⊢
    exact ⟨h12, .inr ⟨rfl, by omega, by omega⟩⟩
  · simp only [lenS, nxtS] at hz ⊢
    exact ⟨h12, .inr ⟨rfl, by omega, by omega⟩⟩
abbrev no' {p : Prop} {a b : Nat} (h : a = b → False) : a = b → p := fun e => (h e).elim
theorem wends_good {r : Wt} (hw : Wd r.w) (hp : (r.q = 1 ∧ r.oa = 0 ∧ (r.ra = 0 ∨ r.ra = 1 ∨ r.ra = 2)) ∨ ((r.ra = 0 ∨ r.ra = 2) ∧ oaq r.oa r.q)) (a b : Int) : (r.ends a b).good := by
  refine ⟨.inr (.inr (.inr (.inr (.inr (.inl ⟨.inl rfl, ?_⟩))))), hw, fun e => (by cases e), fun e => (by cases e), fun e => (by cases e), fun _ => wd0, fun e => (by rcases e with e | e <;> cases e), fun e => (by rcases e with e | e <;> cases e)⟩
  rcases hp with ⟨h1, h2, h3⟩ | ⟨h1, h2⟩
  · exact .inl ⟨by show qe r.q = 2; rw [h1]; rfl, h2, h3⟩
  · refine .inr ⟨h1, ?_⟩
    show oaq r.oa (qe r.q)
    rcases h2 with ⟨h2, h3⟩ | ⟨h2, h3 | h3⟩
    · exact .inl ⟨h2, by rw [h3]; rfl⟩
    · exact .inr ⟨h2, .inl (by rw [h3]; rfl)⟩
    · exact .inr ⟨h2, .inr (by rw [h3]; rfl)⟩
theorem wfound_good {r : Wt} (hw : Wd r.w) (hq : r.q = 1) (hra : r.ra = 0 ∨ r.ra = 2) : r.found.good := by
  unfold Wt.found
  by_cases hO : rdO r = []
  · rw [if_pos hO]
    apply wends_good
    · exact hw
    · exact .inl ⟨hq, rfl, by rcases hra with h | h <;> simp [h]⟩
  · rw [if_neg hO]
    exact ⟨.inr (.inr (.inr (.inl ⟨rfl, hra, .inl ⟨rfl, by show qj r.q = 3; rw [hq]; rfl⟩⟩))), hw, fun e => (by cases e), fun _ => ⟨wd0, .inl rfl⟩, fun e => (by cases e), fun e => (by cases e), fun e => (by rcases e with e | e <;> cases e), fun _ => rowOk_oth hO _ _⟩
theorem wgoes_good {r : Wt} (hw : Wd r.w) (hq : r.q = 1) (hoa : r.oa = 0) (hr : r.ra = 0 ∨ (r.ra = 2 ∧ lenS r.l.length r.rn r.ra = 0) ∨ rowOk r.ra r.rk r.rn r.l) : r.goes.good := by
  unfold Wt.goes
  by_cases hz : lenS r.l.length r.rn r.ra = 0
  · rw [if_pos hz]
    have hra : r.ra = 0 ∨ r.ra = 2 := by
      rcases hr with h | h | ⟨_, ⟨h, hp⟩ | ⟨h, _⟩⟩
      · exact .inl h
      · exact .inr h.1
      · rw [h] at hz
        simp only [lenS] at hz
        omega
      · exact .inr h
    unfold Wt.clear
    split
    · exact wfound_good hw hq hra
    · exact ⟨.inr (.inl ⟨.inr rfl, hq, hra, hoa⟩), hw, fun e => (by cases e), fun e => (by cases e), fun e => (by cases e), fun e => (by cases e), fun e => (by rcases e with e | e <;> cases e), fun e => (by rcases e with e | e <;> cases e)⟩
  · rw [if_neg hz]
    have hrow : rowOk r.ra r.rk r.rn r.l := by
      rcases hr with h | h | h
      · rw [h] at hz; exact absurd rfl hz
      · exact absurd h.2 hz
      · exact h
    have hra : r.ra = 1 ∨ r.ra = 2 := by
      rcases hrow.2 with ⟨h, _⟩ | ⟨h, _⟩
      · exact .inl h
      · exact .inr h
    exact ⟨.inr (.inr (.inl ⟨.inl rfl, hq, hra, hoa⟩)), hw, fun e => (by cases e), fun e => (by cases e), fun e => (by cases e), fun e => (by cases e), fun _ => hrow, fun e => (by rcases e with e | e <;> cases e)⟩
theorem wpasses_good {r : Wt} (hw : Wd r.w) (hq : r.q = 1) (hoa : r.oa = 0) (hr : rowOk r.ra r.rk r.rn r.l) : r.passes.good := by
  unfold Wt.passes
  refine wgoes_good hw hq hoa ?_
  by_cases hz : lenS r.l.length r.rn r.ra - 1 = 0
  · exact .inr (.inl ⟨rfl, hz⟩)
  · exact .inr (.inr (rowOk_next hr hz))
theorem wnext_good {r : Wt} (hw : Wd r.w) (hra : r.ra = 0 ∨ r.ra = 2) (hq : r.q = 3 ∨ r.q = 4) (hr : rowOk r.oa r.ok r.on r.r) : r.next.good := by
  unfold Wt.next
  by_cases hz : lenS r.r.length r.on r.oa - 1 = 0
  · rw [if_pos hz]
    apply wends_good
    · exact hw
    · exact .inr ⟨hra, .inr ⟨rfl, hq⟩⟩
  · rw [if_neg hz]
    exact ⟨.inr (.inr (.inr (.inl ⟨rfl, hra, .inr ⟨rfl, hq⟩⟩))), hw, fun e => (by cases e), fun _ => ⟨wd0, .inl rfl⟩, fun e => (by cases e), fun e => (by cases e), fun e => (by rcases e with e | e <;> cases e), fun _ => rowOk_next hr hz⟩
theorem wrMe_ok {r : Wt} {m : Mm} (h : wrGood r m) : (wrMe r m).ok ∧ (wrMe r m).c = m.c ∧ WfW (wrMe r m).w := by
  obtain ⟨ho, hw, hr⟩ := h
  unfold wrMe
  split
  · rename_i e
    obtain ⟨g1, g2⟩ := hr.en e
    exact enMe_ok ⟨ho, hw, g1, g2, by show 1 ≤ 1000; omega⟩
  · exact ⟨acc_ok ho rfl, rfl, hw⟩
  · exact ⟨acc_ok ho rfl, rfl, hw⟩
  · exact ⟨acc_ok ho rfl, rfl, hw⟩
  · exact ⟨acc_ok ho rfl, rfl, hw⟩
  · exact ⟨acc_ok ho (swpW_len _ _ _ _), rfl, hw.swpW _ _ (withI_rng hr.w _ _)⟩
  · rename_i e
    exact jMe_ok ⟨ho, hw, hr.j e⟩
  · rename_i e
    exact oMe_ok ⟨ho, hw, hr.o e⟩
  · rename_i e
    exact lMe_ok ⟨ho, hw, hr.lv e⟩
  · exact ⟨ho, rfl, hw⟩
theorem wrSt_good {r : Wt} {m : Mm} (h : wrGood r m) : (wrSt r m).good := by
  obtain ⟨ho, hw, hr⟩ := h
  obtain ⟨ph, q, key, slot, n, w, no, told, ra, rk, rn, oa, ok, on, en, j, o, lv, l, r⟩ := r
  have hV : ∀ k n, Wd (vAt m k n) := fun k n => hw.getW _
  have gw := hr.w
  have pl := hr.pl
  simp only [Wt.place] at pl gw
  rcases pl with ⟨h, rfl, rfl, rfl⟩ | ⟨h, rfl, hra, rfl⟩ | ⟨h, rfl, hra, rfl⟩ | ⟨rfl, hra, hq⟩ | ⟨rfl, rfl, hra, hoa⟩ | ⟨h, hq⟩ | ⟨rfl, hq, rfl, rfl⟩
  · match ph, h, hr with
    | 0, _, hr =>
      obtain ⟨g1, g2⟩ := hr.en rfl
      have hE : enGood en.w2 m := ⟨ho, hw, g1, g2, by show 1 ≤ 1000; omega⟩
      have hs := enSt_s hE
      show (wrEnter _ _ _).good
      unfold wrEnter
      split
      · split
        · exact ⟨.inr (.inr (.inr (.inr (.inr (.inr ⟨rfl, Nat.le_refl _, rfl, rfl⟩))))), gw, fun e => (by cases e), fun e => (by cases e), fun e => (by cases e), fun e => (by cases e), fun e => (by rcases e with e | e <;> cases e), fun e => (by rcases e with e | e <;> cases e)⟩
        · exact ⟨.inl ⟨Nat.le_refl _, rfl, rfl, rfl⟩, gw, fun e => (by cases e), fun e => (by cases e), fun e => (by cases e), fun e => (by cases e), fun e => (by rcases e with e | e <;> cases e), fun e => (by rcases e with e | e <;> cases e)⟩
      · exact ⟨.inl ⟨Nat.zero_le _, rfl, rfl, rfl⟩, gw, fun _ => ⟨hs.1, by show Wd (enSt en.w2 m).h; rw [hs.2]; exact g2⟩, fun e => (by cases e), fun e => (by cases e), fun e => (by cases e), fun e => (by rcases e with e | e <;> cases e), fun e => (by rcases e with e | e <;> cases e)⟩
    | 1, _, hr => exact ⟨.inr (.inl ⟨.inl rfl, rfl, .inl rfl, rfl⟩), gw, fun e => (by cases e), fun e => (by cases e), fun e => (by cases e), fun e => (by cases e), fun e => (by rcases e with e | e <;> cases e), fun e => (by rcases e with e | e <;> cases e)⟩
  · rcases h with rfl | rfl
    · show (wrLook _ _).good
      unfold wrLook
      refine wgoes_good (hV _ _) rfl rfl ?_
      by_cases hL : othL (vAt m 8 key) 1 slot = []
      · exact .inl (if_pos hL)
      · refine .inr (.inr ?_)
        show rowOk (if othL (vAt m 8 key) 1 slot = [] then 0 else 1) _ _ _
        rw [if_neg hL]
        exact rowOk_oth hL _ _
    · show (if _ then _ else _ : Wt).good
      split
      · exact wfound_good gw rfl hra
      · exact ⟨.inr (.inl ⟨.inl rfl, rfl, hra, rfl⟩), gw, fun e => (by cases e), fun e => (by cases e), fun e => (by cases e), fun e => (by cases e), fun e => (by rcases e with e | e <;> cases e), fun e => (by rcases e with e | e <;> cases e)⟩
  · have hrow := hr.rl h
    have h3 : ra = 0 ∨ ra = 1 ∨ ra = 2 := .inr hra
    rcases h with rfl | rfl
    · show (wrRival _ _).good
      unfold wrRival
      split
      · exact wends_good gw (.inl ⟨rfl, rfl, h3⟩) _ _
      · split
        · exact wends_good gw (.inl ⟨rfl, rfl, h3⟩) _ _
        · split
          · exact ⟨.inr (.inr (.inl ⟨.inr rfl, rfl, hra, rfl⟩)), gw, fun e => (by cases e), fun e => (by cases e), fun e => (by cases e), fun e => (by cases e), fun _ => hrow, fun e => (by rcases e with e | e <;> cases e)⟩
          · exact wpasses_good gw rfl rfl hrow
    · show (if _ then _ else _ : Wt).good
      split
      · exact wpasses_good gw rfl rfl hrow
      · exact wends_good gw (.inl ⟨rfl, rfl, h3⟩) _ _
  · have hJ : jGood j m := ⟨ho, hw, hr.j rfl⟩
    have hj := jSt_good hJ
    have hrow := hr.ol (.inl rfl)
    have hoa : oa = 1 ∨ oa = 2 := by rcases hq with ⟨h, _⟩ | ⟨h, _⟩ <;> omega
    have hqq : q = 3 ∨ q = 4 := by rcases hq with ⟨_, h⟩ | ⟨_, h⟩ <;> omega
    show (wrJoined _ _).good
    unfold wrJoined
    split
    · exact ⟨.inr (.inr (.inr (.inr (.inl ⟨rfl, rfl, hra, hoa⟩)))), gw, fun e => (by cases e), fun e => (by cases e), fun _ => wd0, fun e => (by cases e), fun e => (by rcases e with e | e <;> cases e), fun _ => hrow⟩
    · split
      · exact wnext_good gw hra hqq hrow
      · split
        · exact wends_good gw (.inr ⟨hra, hq⟩) _ _
        · exact ⟨.inr (.inr (.inr (.inl ⟨rfl, hra, hq⟩))), gw, fun e => (by cases e), fun _ => ⟨hj.1, hj.2.1⟩, fun e => (by cases e), fun e => (by cases e), fun e => (by rcases e with e | e <;> cases e), fun _ => hrow⟩
  · have hO : oGood o m := ⟨ho, hw, hr.o rfl⟩
    have hs := oSt_s hO
    have hrow := hr.ol (.inr rfl)
    show (wrOwned _ _).good
    unfold wrOwned
    split
    · exact wnext_good gw hra (.inr rfl) hrow
    · exact ⟨.inr (.inr (.inr (.inr (.inl ⟨rfl, rfl, hra, hoa⟩)))), gw, fun e => (by cases e), fun e => (by cases e), fun _ => hs, fun e => (by cases e), fun e => (by rcases e with e | e <;> cases e), fun _ => hrow⟩
  · rcases h with rfl | rfl
    · have hL : lGood lv m := ⟨ho, hw, hr.lv rfl⟩
      have hs := lSt_s hL
      show (wrLeft _ _).good
      unfold wrLeft
      split
      · exact ⟨.inr (.inr (.inr (.inr (.inr (.inl ⟨.inr rfl, hq⟩))))), gw, fun e => (by cases e), fun e => (by cases e), fun e => (by cases e), fun e => (by cases e), fun e => (by rcases e with e | e <;> cases e), fun e => (by rcases e with e | e <;> cases e)⟩
      · exact ⟨.inr (.inr (.inr (.inr (.inr (.inl ⟨.inl rfl, hq⟩))))), gw, fun e => (by cases e), fun e => (by cases e), fun e => (by cases e), fun _ => hs, fun e => (by rcases e with e | e <;> cases e), fun e => (by rcases e with e | e <;> cases e)⟩
    · exact hr
  · exact hr
theorem wrStep_good {r : Wt} {m : Mm} (h : wrGood r m) : wrGood (wrSt r m) (wrMe r m) := ⟨(wrMe_ok h).1, (wrMe_ok h).2.2, wrSt_good h⟩
theorem wrNot_good {h : Int} (e : Int) : (wrNot h e).good := ⟨.inr (.inr (.inr (.inr (.inr (.inr ⟨rfl, Nat.zero_le _, rfl, rfl⟩))))), wd0, fun e => (by cases e), fun e => (by cases e), fun e => (by cases e), fun e => (by cases e), fun e => (by rcases e with e | e <;> cases e), fun e => (by rcases e with e | e <;> cases e)⟩
theorem wrOf_good (c : Cfg) {h : Int} (hh : Wd h) (key : Int) : (wrOf c h key).good := by
  unfold wrOf
  split
  · exact wrNot_good _
  · split
    · exact wrNot_good _
    · split
      · exact ⟨.inl ⟨Nat.zero_le _, rfl, rfl, rfl⟩, wd0, fun _ => ⟨wd0, hh⟩, fun e => (by cases e), fun e => (by cases e), fun e => (by cases e), fun e => (by rcases e with e | e <;> cases e), fun e => (by rcases e with e | e <;> cases e)⟩
      · exact wrNot_good _
end Go.Proofs.YtocfhiafegkfkaaGreat.Ct
namespace Go.Proofs.YtocfhiafegkfkaaGreat.Ct
open Go Go.Proofs Go.Proofs.YtocfhiafegkfkaaGreat.Ev
open Go.RowKit

def wrRun : Nat → Nat → Wt → Mm → Nat × Wt × Mm
  | 0, i, o, m => (i, o, m)
  | n + 1, i, o, m => if o.dn = true then (i, o, m) else wrRun n (i + 1) (wrSt o m) (wrMe o m)
theorem wrRun_good : ∀ (n i : Nat) (o : Wt) (m : Mm), wrGood o m → wrGood (wrRun n i o m).2.1 (wrRun n i o m).2.2
  | 0, _, _, _, h => h
  | n + 1, i, o, m, h => by
    unfold wrRun
    split
    · exact h
    · exact wrRun_good n (i + 1) _ _ (wrStep_good h)
noncomputable abbrev wzF : Func := Tryz.f17
abbrev wzId : FuncId := 17
abbrev wzL : List Nat := [1, 0, 1, 0, 0]
abbrev mBkW (m : Mm) : List (Nat × Blk) := [(15, .cells (m.cells 16) memT), (16, .ints .u64 m.w u64T)]
abbrev wrP (ns : List Nat) (o : Wt) : Prop := isHid wrF ns o.enc (bl wrF ns o.enc ns 0)
abbrev qAskW (o : Wt) : Prop := ([] : List Value) = [] ∧ isWt o.enc ∧ o.good
abbrev qGoW (o : Wt) (m : Mm) : Prop := ([] : List Value) = [] ∧ isWt o.enc ∧ wrGood o m
/-- What is left, in the order of the names. -/
def wzS (o : Wt) (m : Mm) : Hp := ⟨(0, .opt (hidN 15) (wrF 0) o.enc) :: (mBkW m ++ optL wrF (hidN 15) o.enc (rng 17 14) 1), 31, []⟩
def wzFr (o : Wt) (m : Mm) (N i : Int) (ds : List Dec) : Fr := mkFr 24 [(0, pt0), (1, ptN 15), (2, .int .i64 N), (8, .int .i64 N), (9, .int .i64 i)] (wzS o m).blks 31 [0, 15, 16] ds
def wzG (o : Wt) (m : Mm) (N : Int) : Fr := mkFr 24 [(0, pt0), (1, ptN 15), (2, .int .i64 N), (8, .int .i64 N), (9, .int .i64 0)] (hidHp wrF 15 o.enc m).blks 17 [] []
def wzE (o : Wt) (m : Mm) (i : Int) (ds : List Dec) : Fr := mkFr 24 [(6, .int .i64 i)] (wzS o m).blks 31 [0, 15, 16] ds
def wzX (o : Wt) (m : Mm) (N : Int) (ds : List Dec) : Fr := mkFr 24 [(2, .int .i64 N)] (wzS o m).blks 31 [0, 15, 16] ds
abbrev n17 : List Nat := [0, 1, 2, 3, 4, 5, 6, 7, 8, 9, 10, 11, 12, 13, 14, 15, 16]
/-- All names that stand. -/
abbrev n31 : List Nat := n17 ++ [17, 18, 19, 20, 21, 22, 23, 24, 25, 26, 27, 28, 29, 30]
abbrev n45 : List Nat := n17 ++ [31, 32, 33, 34, 35, 36, 37, 38, 39, 40, 41, 42, 43, 44]
open Dec in
section
variable (o : Wt) (m : Mm) (N i : Nat)
theorem wz_in : execR Ev1 12 .normal [.code (bd wzF [])] n17 [0, 1, 2, 8, 9] 17 [] ⟨hidA 15 [.int .i64 N] ++ List.replicate 21 undef, hidHp wrF 15 o.enc m, [], []⟩ = some (.normal, [.code (.loop (bd wzF wzL)), .blk 0, .code (bd wzF [1, 1])], wzG o m N, []) := by kernel_rfl
theorem wz_go : run Ev1 12 (bd wzF wzL) n45 [0, 1, 2, 8, 9] 17 [] (wzFr o m N (i : Int) [t, Dec.l, f]) = some (.normal, wzFr (wrSt o m) (wrMe o m) N (w64 ((i : Int) + 1)) [], [decide ((i : Int) < (N : Int)) = true, wrP (hidN 15) o, qAskW o, o.dn = false, wrP (hidN 15) o, qGoW o m]) := by kernel_rfl
theorem wz_dn : run Ev1 12 (bd wzF wzL) n31 [6] 17 [] (wzFr o m N (i : Int) [t, Dec.l, t]) = some (.ret, wzE o m (i : Int) [], [decide ((i : Int) < (N : Int)) = true, wrP (hidN 15) o, qAskW o, o.dn = true]) := by kernel_rfl
theorem wz_end : run Ev1 12 (bd wzF wzL) n31 [2] 17 [] (wzFr o m N (i : Int) [f]) = some (.exit 0, wzX o m N [], [decide ((i : Int) < (N : Int)) = false]) := by kernel_rfl
theorem wz_out : execR Ev1 12 (.exit 0) [.blk 0, .code (bd wzF [1, 1])] n31 [6] 17 [] (wzX o m N []) = some (.ret, [], wzE o m N [], []) := by kernel_rfl
theorem wz_ret (v : Int) : execR Ev1 12 .ret [.blk 0, .code (bd wzF [1, 1])] n31 [6] 17 [] (wzE o m v []) = some (.ret, [], wzE o m v [], []) := by kernel_rfl
end
open Dec in
theorem wz_C {o o' : Wt} {m m' : Mm} {N n : Nat} (hN : N ≤ 1000) (hg : wrGood o m) (hR : wrRun N 0 o m = (n, o', m')) : CallC Tryz.prog wzId (hidA 15 [.int .i64 N]) (hidHp wrF 15 o.enc m) (.int .i64 n) (hidOut wrF 15 o'.enc m') := by
  refine CallC.ren (hp1 := wzS o' m') ?_ n31 rfl (by kernel_rfl) (by kernel_rfl) ⟨by kernel_rfl, by kernel_rfl, by kernel_rfl, by kernel_rfl, by kernel_rfl, by kernel_rfl, by kernel_rfl, by kernel_rfl, by kernel_rfl, by kernel_rfl, by kernel_rfl, by kernel_rfl, by kernel_rfl, by kernel_rfl, by kernel_rfl, by kernel_rfl, by kernel_rfl, trivial⟩ (by kernel_rfl) z17
  refine CallC.of_body (E := Ev1) (ds := []) (fn := wzF) 21 (by kernel_rfl) (by kernel_rfl) (by kernel_rfl) (by kernel_rfl) ?_
  refine KC.of_exec (fr := ⟨hidA 15 [.int .i64 N] ++ List.replicate 21 undef, hidHp wrF 15 o.enc m, [], []⟩) Ev1ok (wz_in o m N) (pcs_of trivial) (Nat.le_refl _) z17 ?_
  have ha : KC Ev1 17 .normal [.code (.loop (bd wzF wzL)), .blk 0, .code (bd wzF [1, 1])] (wzFr o m N ((0 : Nat) : Int) []) (Ev.Ends Ev1 wzF 17 (.int .i64 n) (wzS o' m')) := by
    refine KC.loop (m0 := 17) (ι := Nat × Wt × Mm) (fun x => wzFr x.2.1 x.2.2 N (x.1 : Int) []) (fun x => x.1 ≤ N ∧ wrGood x.2.1 x.2.2 ∧ wrRun (N - x.1) x.1 x.2.1 x.2.2 = (n, o', m')) (fun x => N - x.1)
      (fun ex fr => (ex = .exit 0 ∧ n = N ∧ fr = wzX o' m' N []) ∨ (ex = .ret ∧ fr = wzE o' m' n [])) (fun x hx => ?_) ?_ (0, o, m) ⟨Nat.zero_le _, hg, hR⟩
    · obtain ⟨i, o, m⟩ := x
      obtain ⟨hi, ho, he⟩ := hx
      simp only at hi ho he ⊢
      have hl : 17 ≤ 31 := by omega
      by_cases hlt : i < N
      · have hd : decide ((i : Int) < (N : Int)) = true := decide_eq_true (by omega)
        obtain ⟨k, hk⟩ : ∃ k, N - i = k + 1 := ⟨N - i - 1, by omega⟩
        rw [hk] at he
        unfold wrRun at he
        by_cases hr : o.dn = true
        · rw [if_pos hr] at he
          simp only [Prod.mk.injEq] at he
          obtain ⟨rfl, rfl, rfl⟩ := he
          exact CodeC.of_run (fr := wzFr o m N (i : Int) [t, Dec.l, t]) Ev1ok (wz_dn o m N i) (pcs_of ⟨hd, rfl, ⟨rfl, rfl, ho.2.2⟩, hr, trivial⟩) hl z17 (.inr ⟨by simp, .inr ⟨rfl, rfl⟩⟩)
        · rw [if_neg hr] at he
          exact CodeC.of_run (fr := wzFr o m N (i : Int) [t, Dec.l, f]) Ev1ok (wz_go o m N i) (pcs_of ⟨hd, rfl, ⟨rfl, rfl, ho.2.2⟩, eq_false_of_ne_true hr, rfl, ⟨rfl, rfl, ho⟩, trivial⟩) hl z17 (.inl ⟨rfl, (i + 1, wrSt o m, wrMe o m), by rw [w64_succ i (by omega)], ⟨by simp only; omega, wrStep_good ho, by
            simp only
            rw [show N - (i + 1) = k by omega]
            exact he⟩, by simp only; omega⟩)
      · have e : i = N := by omega
        subst e
        rw [show i - i = 0 by omega] at he
        have he' : (i, o, m) = (n, o', m') := he
        simp only [Prod.mk.injEq] at he'
        obtain ⟨rfl, rfl, rfl⟩ := he'
        exact CodeC.of_run (fr := wzFr o m i (i : Int) [f]) Ev1ok (wz_end o m i i) (pcs_of ⟨decide_eq_false (by omega), trivial⟩) hl z17 (.inr ⟨by simp, .inl ⟨rfl, rfl, rfl⟩⟩)
    · rintro ex fr (⟨rfl, rfl, rfl⟩ | ⟨rfl, rfl⟩)
      · exact KC.of_exec Ev1ok (wz_out o' m' n) (pcs_of trivial) (show 17 ≤ 31 by omega) z17 (KC.done ⟨by simp, [.int .i64 n], [], n31, 0, by kernel_rfl, by simp, by kernel_rfl, rfl, z17⟩)
      · exact KC.of_exec Ev1ok (wz_ret o' m' n) (pcs_of trivial) (show 17 ≤ 31 by omega) z17 (KC.done ⟨by simp, [.int .i64 n], [], n31, 0, by kernel_rfl, by simp, by kernel_rfl, rfl, z17⟩)
  exact KC.alias [0, 1, 2, 3, 4, 5, 6, 7, 8, 9, 10, 11, 12, 13, 14, 15, 16, 1, 2, 3, 4, 5, 6, 7, 8, 9, 10, 11, 12, 13, 14] ha (by kernel_rfl) (by kernel_rfl) (by kernel_rfl) ⟨by kernel_rfl, by kernel_rfl, by kernel_rfl, by kernel_rfl, by kernel_rfl, by kernel_rfl, by kernel_rfl, by kernel_rfl, by kernel_rfl, by kernel_rfl, by kernel_rfl, by kernel_rfl, by kernel_rfl, by kernel_rfl, by kernel_rfl, by kernel_rfl, by kernel_rfl, trivial⟩ (by kernel_rfl) z17
def numOfW : List Value → Nat
  | [.int .i64 (.ofNat n)] => n
  | _ => 0
abbrev gWz : List Value → Hp → Option (Value × Hp × List Prop) := gHid wrF 15 (fun x m rest => .int .i64 ((wrRun (numOfW rest) 0 (.dec x) m).1 : Int)) (fun x m rest => (wrRun (numOfW rest) 0 (.dec x) m).2.1.enc) (fun x m rest => (wrRun (numOfW rest) 0 (.dec x) m).2.2) (fun x m rest => rest = [.int .i64 (numOfW rest)] ∧ numOfW rest ≤ 1000 ∧ isWt x ∧ wrGood (.dec x) m)
theorem gWz_ok : ∀ args hp v hp' pc, gWz args hp = some (v, hp', pc) → ∀ ds, CallOk Tryz.prog wzId args hp ⟨v, hp', ds, pc⟩ :=
  gHid_ok (enters (fn := Tryz.f17) (by kernel_rfl) (by kernel_rfl) rfl) (fun _ _ _ => rfl) fun x m rest h => by
    obtain ⟨h1, h2, h3, h4⟩ := h
    have hC := wz_C (o := .dec x) (m := m) (n := (wrRun (numOfW rest) 0 (.dec x) m).1) (o' := (wrRun (numOfW rest) 0 (.dec x) m).2.1) (m' := (wrRun (numOfW rest) 0 (.dec x) m).2.2) h2 h4 rfl
    rw [← h1, ← h3] at hC
    exact hC
noncomputable def Ev2 : Env := Ev1.add wzId gWz
theorem isWt_enc (o : Wt) : isWt o.enc := rfl
theorem qAskW_ok {o : Wt} (h : o.good) : qAskW o := ⟨rfl, isWt_enc o, h⟩
theorem qGoW_ok {o : Wt} {m : Mm} (h : wrGood o m) : qGoW o m := ⟨rfl, isWt_enc o, h⟩
theorem wrP_ok (ns : List Nat) (o : Wt) : wrP ns o := rfl
abbrev qRunW (n : Nat) (o : Wt) (m : Mm) : Prop := ([.int .i64 (n : Int)] : List Value) = [.int .i64 (n : Int)] ∧ n ≤ 1000 ∧ isWt o.enc ∧ wrGood o m
theorem qRunW_ok {o : Wt} {m : Mm} (n : Nat) (hn : n ≤ 1000) (h : wrGood o m) : qRunW n o m := ⟨rfl, hn, isWt_enc o, h⟩
abbrev isNewW (c : Cfg) (h k : Int) : Prop := ∃ c' h' k', ([c.v, .int .u64 h, .int .i64 k] : List Value) = [Cfg.v c', .int .u64 h', .int .i64 k'] ∧ Wd h'
theorem isNewW_ok (c : Cfg) {h : Int} (hh : Wd h) (k : Int) : isNewW c h k := ⟨c, h, k, rfl, hh⟩
theorem Ev2ok : EnvOk Ev2 := Ev1ok.add gWz_ok
end Go.Proofs.YtocfhiafegkfkaaGreat.Ct
