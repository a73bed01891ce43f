/- A read's functions, as contracts. -/
import Derived.Test.YtocfhiafegkfkaaGreatCtReadC
namespace Go.Proofs.YtocfhiafegkfkaaGreat.Ct
open Go Go.Proofs Go.Proofs.YtocfhiafegkfkaaGreat.Ev
open Go.RowKit

theorem wd0 : Wd 0 := ⟨Int.le_refl _, by decide⟩
def Rd.place (r : Rd) : Prop := (r.ph ≤ 3 ∧ r.q = 1) ∨ (r.ph = 4 ∧ (r.q = 3 ∨ r.q = 4)) ∨ (r.ph = 5 ∧ r.q = 4) ∨ (r.ph = 6 ∧ (r.q = 2 ∨ r.q = 3 ∨ r.q = 4)) ∨ (r.ph = 7 ∧ r.q ≤ 4)
structure Rd.good (r : Rd) : Prop where
  pl : r.place
  w : Wd r.w
  en : r.ph = 0 → Wd r.en.s ∧ Wd r.en.h
  j : r.ph = 4 → Wd r.j.s ∧ (r.j.fn = lookF ∨ r.j.fn = numF ∨ r.j.fn = layF)
  o : r.ph = 5 → Wd r.o.s
  lv : r.ph = 6 → Wd r.lv.s
  at' : r.ph = 4 ∨ r.ph = 5 → 0 ≤ r.at' ∧ r.at' < (r.l.length : Int) ∧ r.l.length ≤ 12
def rdGood (r : Rd) (m : Mm) : Prop := m.ok ∧ WfW m.w ∧ r.good
theorem oth_len (w k s : Int) : (othL w k s).length ≤ 12 := but_up_len w k s 12
theorem getD_nil {w k s : Int} (h : othL w k s ≠ []) : 0 < (othL w k s).length := List.length_pos_iff.2 h
open Dec in
theorem rdStep_C (r : Rd) (m : Mm) (hg : rdGood r m) : rdOut r m (rdSt r m) (rdMe r m) := by
  obtain ⟨ho, hw, hr⟩ := hg
  obtain ⟨pl, gw, gen, gj, go, glv, gat⟩ := hr
  obtain ⟨ph, q, key, slot, n, w, oth, no, told, at', en, j, o, lv, l⟩ := r
  simp only [Rd.place] at pl gw gen gj go glv gat
  have hV : ∀ k n, Wd (vAt m k n) := fun k n => hw.getW _
  rcases pl with ⟨h3, rfl⟩ | ⟨rfl, hq⟩ | ⟨rfl, rfl⟩ | ⟨rfl, hq⟩ | ⟨rfl, hq⟩
  · match ph, h3 with
    | 0, _ =>
      obtain ⟨g1, g2⟩ := gen rfl
      have hE : T0 (enGood en.w2 m) := ⟨rfl, ho, hw, g1, g2, by show 1 ≤ 1000; omega⟩
      have hh : T0 (Wd (enSt en.w2 m).h) := ⟨rfl, by rw [(enSt_s hE.2).2]; exact g2⟩
      cases hd : ((enSt en.w2 m).dn || !ofOk (enSt en.w2 m).h (enMe en.w2 m).c.s) with
      | false =>
        have e1 : rdSt ⟨0, 1, key, slot, n, w, oth, no, told, at', en, j, o, lv, l⟩ m = ⟨0, 1, key, slot, n, w, oth, no, told, at', (enSt en.w2 m).et, j, o, lv, l⟩ := by
          simp only [rdSt, rdEnter, hd, Bool.false_eq_true, if_false]
        rw [e1]
        exact ro_e_s _ _ _ _ _ _ _ _ _ _ _ _ _ _ (pcs_of ⟨rfl, hE, rfl, hh, by rw [hd]; rfl, trivial⟩)
      | true =>
        by_cases he : (errI (enSt en.w2 m) (enMe en.w2 m) != 0) = true
        · have e1 : rdSt ⟨0, 1, key, slot, n, w, oth, no, told, at', en, j, o, lv, l⟩ m = ⟨7, 1, key, slot, n, w, oth, errI (enSt en.w2 m) (enMe en.w2 m), told, at', (enSt en.w2 m).et, j, o, lv, l⟩ := by
            simp only [rdSt, rdEnter, hd, he, if_true]
          rw [e1]
          exact ro_e_t _ _ _ _ _ _ _ _ _ _ _ _ _ _ (pcs_of ⟨rfl, hE, rfl, hh, by rw [hd]; rfl, rfl, hh, he, trivial⟩)
        · have he := eq_false_of_ne_true he
          have e1 : rdSt ⟨0, 1, key, slot, n, w, oth, no, told, at', en, j, o, lv, l⟩ m = ⟨1, 1, key, slot, n, w, oth, errI (enSt en.w2 m) (enMe en.w2 m), told, at', (enSt en.w2 m).et, j, o, lv, l⟩ := by
            simp only [rdSt, rdEnter, hd, he, if_true, Bool.false_eq_true, if_false]
          rw [e1]
          exact ro_e_f _ _ _ _ _ _ _ _ _ _ _ _ _ _ (pcs_of ⟨rfl, hE, rfl, hh, by rw [hd]; rfl, rfl, hh, he, trivial⟩)
    | 1, _ => exact ro_s _ _ _ _ _ _ _ _ _ _ _ _ _ _ (pcs_of ⟨ho, trivial⟩)
    | 2, _ =>
      cases hh : hasI (vAt m 8 key) 0 slot with
      | false =>
        have e1 : rdSt ⟨2, 1, key, slot, n, w, oth, no, told, at', en, j, o, lv, l⟩ m = ⟨3, 1, key, slot, n, vAt m 8 key, oth, no, told, at', en, j, o, lv, l⟩ := by
          simp only [rdSt, hh, Bool.false_eq_true, if_false, Rd.atW]
        rw [e1]
        exact ro_l_f _ _ _ _ _ _ _ _ _ _ _ _ _ _ (pcs_of ⟨ho, hV _ _, hh, trivial⟩)
      | true =>
        by_cases hn : othL (vAt m 8 key) 1 slot = []
        · have e1 : rdSt ⟨2, 1, key, slot, n, w, oth, no, told, at', en, j, o, lv, l⟩ m = ⟨6, 2, key, slot, n, vAt m 8 key, oth, no, 0, at', en, j, o, ⟨slot, 0, -1, false, false⟩, l⟩ := by
            simp only [rdSt, hh, if_true, Rd.atW, Rd.found, hn, Rd.ends]
          rw [e1]
          exact ro_l_n _ _ _ _ _ _ _ _ _ _ _ _ _ _ (pcs_of ⟨ho, hV _ _, hh, ⟨hV _ _, hn⟩, trivial⟩)
        · have e1 : rdSt ⟨2, 1, key, slot, n, w, oth, no, told, at', en, j, o, lv, l⟩ m = ⟨4, 3, key, slot, n, vAt m 8 key, (othL (vAt m 8 key) 1 slot).getD 0 0, no, told, 0, en, rdJoin ((othL (vAt m 8 key) 1 slot).getD 0 0) 1 slot n, o, lv, othL (vAt m 8 key) 1 slot⟩ := by
            simp only [rdSt, hh, if_true, Rd.atW, Rd.found, hn, if_false]
          have hp := getD_nil hn
          rw [e1]
          exact ro_l_s _ _ _ _ _ _ _ _ _ _ _ _ _ _ (pcs_of ⟨ho, hV _ _, hh, ⟨hV _ _, hn⟩, decide_eq_false (by omega), Int.le_refl _, by omega, hp, trivial⟩)
    | 3, _ =>
      cases hh : dnS m 8 key w with
      | false =>
        have e1 : rdSt ⟨3, 1, key, slot, n, w, oth, no, told, at', en, j, o, lv, l⟩ m = ⟨2, 1, key, slot, n, w, oth, no, told, at', en, j, o, lv, l⟩ := by
          simp only [rdSt, hh, Bool.false_eq_true, if_false, Rd.atW]
        rw [e1]
        exact ro_k_f _ _ _ _ _ _ _ _ _ _ _ _ _ _ (pcs_of ⟨gw, ho, hh, trivial⟩)
      | true =>
        by_cases hn : othL w 1 slot = []
        · have e1 : rdSt ⟨3, 1, key, slot, n, w, oth, no, told, at', en, j, o, lv, l⟩ m = ⟨6, 2, key, slot, n, w, oth, no, 0, at', en, j, o, ⟨slot, 0, -1, false, false⟩, l⟩ := by
            simp only [rdSt, hh, if_true, Rd.found, hn, Rd.ends]
          rw [e1]
          exact ro_k_n _ _ _ _ _ _ _ _ _ _ _ _ _ _ (pcs_of ⟨gw, ho, hh, ⟨gw, hn⟩, trivial⟩)
        · have e1 : rdSt ⟨3, 1, key, slot, n, w, oth, no, told, at', en, j, o, lv, l⟩ m = ⟨4, 3, key, slot, n, w, (othL w 1 slot).getD 0 0, no, told, 0, en, rdJoin ((othL w 1 slot).getD 0 0) 1 slot n, o, lv, othL w 1 slot⟩ := by
            simp only [rdSt, hh, if_true, Rd.found, hn, if_false]
          have hp := getD_nil hn
          rw [e1]
          exact ro_k_s _ _ _ _ _ _ _ _ _ _ _ _ _ _ (pcs_of ⟨gw, ho, hh, ⟨gw, hn⟩, decide_eq_false (by omega), Int.le_refl _, by omega, hp, trivial⟩)
  · obtain ⟨g1, g2⟩ := gj rfl
    obtain ⟨a0, a1, a2⟩ := gat (.inl rfl)
    have hJ : T0 (jGood j m) := ⟨rfl, ho, hw, g1, g2⟩
    have eA : w64 (at' + 1) = at' + 1 := w64_in (by omega) (by omega)
    have e0 : rdSt ⟨4, q, key, slot, n, w, oth, no, told, at', en, j, o, lv, l⟩ m = rdJoined ⟨4, q, key, slot, n, w, oth, no, told, at', en, j, o, lv, l⟩ (jSt j m) := rfl
    rw [e0]
    cases h2 : ((jSt j m).r == 2) with
    | true =>
      have e1 : rdJoined ⟨4, q, key, slot, n, w, oth, no, told, at', en, j, o, lv, l⟩ (jSt j m) = ⟨5, 4, key, slot, n, w, oth, no, told, at', en, jSt j m, ⟨slot, 0, oth, 0, false, false⟩, lv, l⟩ := by simp only [rdJoined, h2, if_true]
      rw [e1]
      rcases hq with rfl | rfl
      · exact ro_j3_2 _ _ _ _ _ _ _ _ _ _ _ _ _ _ (pcs_of ⟨hJ, h2, trivial⟩)
      · exact ro_j4_2 _ _ _ _ _ _ _ _ _ _ _ _ _ _ (pcs_of ⟨hJ, h2, trivial⟩)
    | false =>
      cases h1 : ((jSt j m).r == 1) with
      | true =>
        by_cases hA : decide (w64 (at' + 1) ≥ (l.length : Int)) = true
        · have e1 : rdJoined ⟨4, q, key, slot, n, w, oth, no, told, at', en, j, o, lv, l⟩ (jSt j m) = ⟨6, q, key, slot, n, w, oth, no, 0, at', en, jSt j m, o, ⟨slot, 0, -1, false, false⟩, l⟩ := by
            simp only [rdJoined, h2, h1, Bool.false_eq_true, if_false, if_true, Rd.goes, hA, Rd.ends]
          rw [e1]
          rcases hq with rfl | rfl
          · exact ro_j3_1_e _ _ _ _ _ _ _ _ _ _ _ _ _ _ (pcs_of ⟨hJ, h2, h1, hA, trivial⟩)
          · exact ro_j4_1_e _ _ _ _ _ _ _ _ _ _ _ _ _ _ (pcs_of ⟨hJ, h2, h1, hA, trivial⟩)
        · have hA := eq_false_of_ne_true hA
          have hA' := of_decide_eq_false hA
          have e1 : rdJoined ⟨4, q, key, slot, n, w, oth, no, told, at', en, j, o, lv, l⟩ (jSt j m) = ⟨4, q3 q, key, slot, n, w, l.getD (w64 (at' + 1)).toNat 0, no, told, w64 (at' + 1), en, rdJoin (l.getD (w64 (at' + 1)).toNat 0) 1 slot n, o, lv, l⟩ := by
            simp only [rdJoined, h2, h1, Bool.false_eq_true, if_false, if_true, Rd.goes, hA]
          rw [e1]
          rcases hq with rfl | rfl
          · exact ro_j3_1_g _ _ _ _ _ _ _ _ _ _ _ _ _ _ (pcs_of ⟨hJ, h2, h1, hA, by omega, by omega, by omega, trivial⟩)
          · exact ro_j4_1_g _ _ _ _ _ _ _ _ _ _ _ _ _ _ (pcs_of ⟨hJ, h2, h1, hA, by omega, by omega, by omega, trivial⟩)
      | false =>
        cases h3 : ((jSt j m).r == 3) with
        | true =>
          have e1 : rdJoined ⟨4, q, key, slot, n, w, oth, no, told, at', en, j, o, lv, l⟩ (jSt j m) = ⟨6, q, key, slot, n, w, oth, no, 7, at', en, jSt j m, o, ⟨slot, 0, 5, false, false⟩, l⟩ := by
            simp only [rdJoined, h2, h1, h3, Bool.false_eq_true, if_false, if_true, Rd.ends]
          rw [e1]
          rcases hq with rfl | rfl
          · exact ro_j3_3 _ _ _ _ _ _ _ _ _ _ _ _ _ _ (pcs_of ⟨hJ, h2, h1, h3, trivial⟩)
          · exact ro_j4_3 _ _ _ _ _ _ _ _ _ _ _ _ _ _ (pcs_of ⟨hJ, h2, h1, h3, trivial⟩)
        | false =>
          have e1 : rdJoined ⟨4, q, key, slot, n, w, oth, no, told, at', en, j, o, lv, l⟩ (jSt j m) = ⟨4, q, key, slot, n, w, oth, no, told, at', en, jSt j m, o, lv, l⟩ := by
            simp only [rdJoined, h2, h1, h3, Bool.false_eq_true, if_false]
          rw [e1]
          rcases hq with rfl | rfl
          · exact ro_j3_0 _ _ _ _ _ _ _ _ _ _ _ _ _ _ (pcs_of ⟨hJ, h2, h1, h3, trivial⟩)
          · exact ro_j4_0 _ _ _ _ _ _ _ _ _ _ _ _ _ _ (pcs_of ⟨hJ, h2, h1, h3, trivial⟩)
  · have g1 := go rfl
    obtain ⟨a0, a1, a2⟩ := gat (.inr rfl)
    have hO : T0 (oGood o m) := ⟨rfl, ho, hw, g1⟩
    have eA : w64 (at' + 1) = at' + 1 := w64_in (by omega) (by omega)
    have e0 : rdSt ⟨5, 4, key, slot, n, w, oth, no, told, at', en, j, o, lv, l⟩ m = rdOwned ⟨5, 4, key, slot, n, w, oth, no, told, at', en, j, o, lv, l⟩ (oSt o m) := rfl
    rw [e0]
    cases hd : (oSt o m).dn with
    | false =>
      have e1 : rdOwned ⟨5, 4, key, slot, n, w, oth, no, told, at', en, j, o, lv, l⟩ (oSt o m) = ⟨5, 4, key, slot, n, w, oth, no, told, at', en, j, oSt o m, lv, l⟩ := by simp only [rdOwned, hd, Bool.false_eq_true, if_false]
      rw [e1]
      exact ro_o_0 _ _ _ _ _ _ _ _ _ _ _ _ _ _ (pcs_of ⟨hO, hd, trivial⟩)
    | true =>
      by_cases hA : decide (w64 (at' + 1) ≥ (l.length : Int)) = true
      · have e1 : rdOwned ⟨5, 4, key, slot, n, w, oth, no, told, at', en, j, o, lv, l⟩ (oSt o m) = ⟨6, 4, key, slot, n, w, oth, no, 0, at', en, j, oSt o m, ⟨slot, 0, -1, false, false⟩, l⟩ := by
          simp only [rdOwned, hd, if_true, Rd.goes, hA, Rd.ends]
        rw [e1]
        exact ro_o_1_e _ _ _ _ _ _ _ _ _ _ _ _ _ _ (pcs_of ⟨hO, hd, hA, trivial⟩)
      · have hA := eq_false_of_ne_true hA
        have hA' := of_decide_eq_false hA
        have e1 : rdOwned ⟨5, 4, key, slot, n, w, oth, no, told, at', en, j, o, lv, l⟩ (oSt o m) = ⟨4, 4, key, slot, n, w, l.getD (w64 (at' + 1)).toNat 0, no, told, w64 (at' + 1), en, rdJoin (l.getD (w64 (at' + 1)).toNat 0) 1 slot n, oSt o m, lv, l⟩ := by
          simp only [rdOwned, hd, if_true, Rd.goes, hA, Bool.false_eq_true, if_false, q3]
        rw [e1]
        exact ro_o_1_g _ _ _ _ _ _ _ _ _ _ _ _ _ _ (pcs_of ⟨hO, hd, hA, by omega, by omega, by omega, trivial⟩)
  · have hL : T0 (lGood lv m) := ⟨rfl, ho, hw, glv rfl⟩
    have e0 : rdSt ⟨6, q, key, slot, n, w, oth, no, told, at', en, j, o, lv, l⟩ m = rdLeft ⟨6, q, key, slot, n, w, oth, no, told, at', en, j, o, lv, l⟩ (lSt lv m) := rfl
    rw [e0]
    cases hd : (lSt lv m).dn with
    | false =>
      have e1 : rdLeft ⟨6, q, key, slot, n, w, oth, no, told, at', en, j, o, lv, l⟩ (lSt lv m) = ⟨6, q, key, slot, n, w, oth, no, told, at', en, j, o, lSt lv m, l⟩ := by simp only [rdLeft, hd, Bool.false_eq_true, if_false]
      rw [e1]
      rcases hq with rfl | rfl | rfl
      · exact ro_v2_0 _ _ _ _ _ _ _ _ _ _ _ _ _ _ (pcs_of ⟨hL, hd, trivial⟩)
      · exact ro_v3_0 _ _ _ _ _ _ _ _ _ _ _ _ _ _ (pcs_of ⟨hL, hd, trivial⟩)
      · exact ro_v4_0 _ _ _ _ _ _ _ _ _ _ _ _ _ _ (pcs_of ⟨hL, hd, trivial⟩)
    | true =>
      have e1 : rdLeft ⟨6, q, key, slot, n, w, oth, no, told, at', en, j, o, lv, l⟩ (lSt lv m) = ⟨7, q, key, slot, n, w, oth, told, told, at', en, j, o, lSt lv m, l⟩ := by simp only [rdLeft, hd, if_true]
      rw [e1]
      rcases hq with rfl | rfl | rfl
      · exact ro_v2_1 _ _ _ _ _ _ _ _ _ _ _ _ _ _ (pcs_of ⟨hL, hd, trivial⟩)
      · exact ro_v3_1 _ _ _ _ _ _ _ _ _ _ _ _ _ _ (pcs_of ⟨hL, hd, trivial⟩)
      · exact ro_v4_1 _ _ _ _ _ _ _ _ _ _ _ _ _ _ (pcs_of ⟨hL, hd, trivial⟩)
  · match q, hq with
    | 0, _ => exact ro_d0 _ _ _ _ _ _ _ _ _ _ _ _ _ _ (pcs_of trivial)
    | 1, _ => exact ro_d1 _ _ _ _ _ _ _ _ _ _ _ _ _ _ (pcs_of trivial)
    | 2, _ => exact ro_d2 _ _ _ _ _ _ _ _ _ _ _ _ _ _ (pcs_of trivial)
    | 3, _ => exact ro_d3 _ _ _ _ _ _ _ _ _ _ _ _ _ _ (pcs_of trivial)
    | 4, _ => exact ro_d4 _ _ _ _ _ _ _ _ _ _ _ _ _ _ (pcs_of trivial)
theorem z13 {tl : List Nat} : ∀ k, k < 13 → (0 :: 1 :: 2 :: 3 :: 4 :: 5 :: 6 :: 7 :: 8 :: 9 :: 10 :: 11 :: 12 :: tl : List Nat).getD k 0 = k := fun k hk => by
  match k, hk with
  | 0, _ | 1, _ | 2, _ | 3, _ | 4, _ | 5, _ | 6, _ | 7, _ | 8, _ | 9, _ | 10, _ | 11, _ | 12, _ => rfl
theorem rd_ask {f : FuncId} {r : Rd} {v : Value} {ds : List Dec} (h : callR Em3 12 f [pt0] (hidHp0 rdF 13 r.enc).xp ds [0, 1, 2, 3, 4, 5, 6, 7, 8, 9, 10, 11, 12] = some (v, (hidHp0 rdF 13 r.enc).xp, [])) (hv : isDead v = false) : CallC Tryz.prog f [pt0] (hidHp0 rdF 13 r.enc) v (hidHp0 rdF 13 r.enc) :=
  CallC.xp (CallC.of_call Em3ok h (by simp) hv z13) hid0_keysIn hid0_keysIn (rdF_okX0 _) (rdF_okX0 _)
theorem rdDone_C (r : Rd) (hg : r.good) : CallC Tryz.prog rdDoneF [pt0] (hidHp0 rdF 13 r.enc) (.bool r.dn) (hidHp0 rdF 13 r.enc) := by
  obtain ⟨pl, _, _, _, _, _, _⟩ := hg
  obtain ⟨ph, q, key, slot, n, w, oth, no, told, at', en, j, o, lv, l⟩ := r
  simp only [Rd.place] at pl
  rcases pl with ⟨h3, rfl⟩ | ⟨rfl, hq⟩ | ⟨rfl, rfl⟩ | ⟨rfl, hq⟩ | ⟨rfl, hq⟩
  · match ph, h3 with
    | 0, _ => exact rd_ask (rn_01 _ _ _ _ _ _ _ _ _ _ _ _ _) rfl
    | 1, _ => exact rd_ask (rn_11 _ _ _ _ _ _ _ _ _ _ _ _ _) rfl
    | 2, _ => exact rd_ask (rn_21 _ _ _ _ _ _ _ _ _ _ _ _ _) rfl
    | 3, _ => exact rd_ask (rn_31 _ _ _ _ _ _ _ _ _ _ _ _ _) rfl
  · rcases hq with rfl | rfl
    · exact rd_ask (rn_43 _ _ _ _ _ _ _ _ _ _ _ _ _) rfl
    · exact rd_ask (rn_44 _ _ _ _ _ _ _ _ _ _ _ _ _) rfl
  · exact rd_ask (rn_54 _ _ _ _ _ _ _ _ _ _ _ _ _) rfl
  · rcases hq with rfl | rfl | rfl
    · exact rd_ask (rn_62 _ _ _ _ _ _ _ _ _ _ _ _ _) rfl
    · exact rd_ask (rn_63 _ _ _ _ _ _ _ _ _ _ _ _ _) rfl
    · exact rd_ask (rn_64 _ _ _ _ _ _ _ _ _ _ _ _ _) rfl
  · match q, hq with
    | 0, _ => exact rd_ask (rn_70 _ _ _ _ _ _ _ _ _ _ _ _ _) rfl
    | 1, _ => exact rd_ask (rn_71 _ _ _ _ _ _ _ _ _ _ _ _ _) rfl
    | 2, _ => exact rd_ask (rn_72 _ _ _ _ _ _ _ _ _ _ _ _ _) rfl
    | 3, _ => exact rd_ask (rn_73 _ _ _ _ _ _ _ _ _ _ _ _ _) rfl
    | 4, _ => exact rd_ask (rn_74 _ _ _ _ _ _ _ _ _ _ _ _ _) rfl
theorem rdErr_C (r : Rd) (hg : r.good) : CallC Tryz.prog rdErrF [pt0] (hidHp0 rdF 13 r.enc) (.int .i64 r.no) (hidHp0 rdF 13 r.enc) := by
  obtain ⟨pl, _, _, _, _, _, _⟩ := hg
  obtain ⟨ph, q, key, slot, n, w, oth, no, told, at', en, j, o, lv, l⟩ := r
  simp only [Rd.place] at pl
  rcases pl with ⟨h3, rfl⟩ | ⟨rfl, hq⟩ | ⟨rfl, rfl⟩ | ⟨rfl, hq⟩ | ⟨rfl, hq⟩
  · match ph, h3 with
    | 0, _ => exact rd_ask (re_01 _ _ _ _ _ _ _ _ _ _ _ _ _) rfl
    | 1, _ => exact rd_ask (re_11 _ _ _ _ _ _ _ _ _ _ _ _ _) rfl
    | 2, _ => exact rd_ask (re_21 _ _ _ _ _ _ _ _ _ _ _ _ _) rfl
    | 3, _ => exact rd_ask (re_31 _ _ _ _ _ _ _ _ _ _ _ _ _) rfl
  · rcases hq with rfl | rfl
    · exact rd_ask (re_43 _ _ _ _ _ _ _ _ _ _ _ _ _) rfl
    · exact rd_ask (re_44 _ _ _ _ _ _ _ _ _ _ _ _ _) rfl
  · exact rd_ask (re_54 _ _ _ _ _ _ _ _ _ _ _ _ _) rfl
  · rcases hq with rfl | rfl | rfl
    · exact rd_ask (re_62 _ _ _ _ _ _ _ _ _ _ _ _ _) rfl
    · exact rd_ask (re_63 _ _ _ _ _ _ _ _ _ _ _ _ _) rfl
    · exact rd_ask (re_64 _ _ _ _ _ _ _ _ _ _ _ _ _) rfl
  · match q, hq with
    | 0, _ => exact rd_ask (re_70 _ _ _ _ _ _ _ _ _ _ _ _ _) rfl
    | 1, _ => exact rd_ask (re_71 _ _ _ _ _ _ _ _ _ _ _ _ _) rfl
    | 2, _ => exact rd_ask (re_72 _ _ _ _ _ _ _ _ _ _ _ _ _) rfl
    | 3, _ => exact rd_ask (re_73 _ _ _ _ _ _ _ _ _ _ _ _ _) rfl
    | 4, _ => exact rd_ask (re_74 _ _ _ _ _ _ _ _ _ _ _ _ _) rfl
/-! One that is made -/
abbrev nsN (a : List Nat) : List Nat := a
def rdHp0 (r : Rd) : Hp := (hidHp0 rdF 13 r.enc).xp
open Dec in
section
variable (c : Cfg) (h key : Int)
theorem rw_k1 : callR Em3 12 rdNewF [c.v, .int .u64 h, .int .i64 key] ⟨[], 0, []⟩ [t, Dec.l] [1, 901, 902, 903, 904, 905, 906, 907, 908, 909, 910, 911, 912] = some (pt0, rdHp0 (rdNew h (if ofOk h c.s = true then tkS h else 0) key 5), [Wd h, decide (key < 0) = true]) := by kernel_rfl
theorem rw_k2 : callR Em3 12 rdNewF [c.v, .int .u64 h, .int .i64 key] ⟨[], 0, []⟩ [f, t] [1, 901, 902, 903, 904, 905, 906, 907, 908, 909, 910, 911, 912] = some (pt0, rdHp0 (rdNew h (if ofOk h c.s = true then tkS h else 0) key 5), [Wd h, decide (key < 0) = false, decide (key ≥ c.k) = true]) := by kernel_rfl
theorem rw_s : callR Em3 12 rdNewF [c.v, .int .u64 h, .int .i64 key] ⟨[], 0, []⟩ [f, f, t] [1, 901, 902, 903, 904, 905, 906, 907, 908, 909, 910, 911, 912] = some (pt0, rdHp0 (rdNew h (if ofOk h c.s = true then tkS h else 0) key 2), [Wd h, decide (key < 0) = false, decide (key ≥ c.k) = false, (!ofOk h c.s) = true]) := by kernel_rfl
theorem rw_ok : callR Em3 12 rdNewF [c.v, .int .u64 h, .int .i64 key] ⟨[], 0, []⟩ [f, f, f, Dec.l] [1, 6, 4, 5, 904, 905, 906, 907, 908, 909, 910, 911, 912] = some (pt0, rdHp0 (rdNew h (if ofOk h c.s = true then tkS h else 0) key 0), [Wd h, decide (key < 0) = false, decide (key ≥ c.k) = false, (!ofOk h c.s) = false, (0 + 1) * 8 ≤ 140737488355328, 0 + 1 ≤ 9223372036854775807, Wd h]) := by kernel_rfl
end
theorem rdNew_C (c : Cfg) (h key : Int) (hh : Wd h) : CallC Tryz.prog rdNewF [c.v, .int .u64 h, .int .i64 key] ⟨[], 0, []⟩ pt0 (hidHp0 rdF 13 (rdOf c h key).enc) := by
  refine CallC.xp (hp := ⟨[], 0, []⟩) ?_ rfl hid0_keysIn rfl (rdF_okX0 _)
  show CallC Tryz.prog rdNewF [c.v, .int .u64 h, .int .i64 key] ⟨[], 0, []⟩ pt0 (rdHp0 (rdOf c h key))
  unfold rdOf rdNewE
  by_cases k1 : key < 0
  · rw [if_pos k1]
    exact CallC.of_call Em3ok (rw_k1 c h key) (pcs_of ⟨hh, decide_eq_true k1, trivial⟩) rfl (z0L _)
  rw [if_neg k1]
  by_cases k2 : key ≥ c.k
  · rw [if_pos k2]
    exact CallC.of_call Em3ok (rw_k2 c h key) (pcs_of ⟨hh, decide_eq_false k1, decide_eq_true k2, trivial⟩) rfl (z0L _)
  rw [if_neg k2]
  cases hk : ofOk h c.s with
  | true =>
    have := CallC.of_call Em3ok (rw_ok c h key) (pcs_of ⟨hh, decide_eq_false k1, decide_eq_false k2, by rw [hk]; rfl, by omega, by omega, hh, trivial⟩) rfl (z0L _)
    rw [hk] at this
    exact this
  | false =>
    have := CallC.of_call Em3ok (rw_s c h key) (pcs_of ⟨hh, decide_eq_false k1, decide_eq_false k2, by rw [hk]; rfl, trivial⟩) rfl (z0L _)
    rw [hk] at this
    exact this
/-! As contracts -/
/-- That what is hidden is a read. -/
def isRd (x : Hid) : Prop := x = (Rd.dec x).enc
abbrev gRs : List Value → Hp → Option (Value × Hp × List Prop) := gHid rdF 13 (fun _ _ _ => .tuple ⟨[]⟩) (fun x m _ => (rdSt (.dec x) m).enc) (fun x m _ => rdMe (.dec x) m) (fun x m rest => rest = [] ∧ isRd x ∧ rdGood (.dec x) m)
abbrev gRdn : List Value → Hp → Option (Value × Hp × List Prop) := gAsk rdF 13 (fun x _ => .bool (Rd.dec x).dn) (fun x rest => rest = [] ∧ isRd x ∧ (Rd.dec x).good)
abbrev gRer : List Value → Hp → Option (Value × Hp × List Prop) := gAsk rdF 13 (fun x _ => .int .i64 (Rd.dec x).no) (fun x rest => rest = [] ∧ isRd x ∧ (Rd.dec x).good)
/-- A world's numbers, as they are handed on. -/
def cfgV : Value → Cfg
  | .agg ⟨[.int .i64 a, .int .i64 b, .int .i64 c, .int .i64 d, .int .u64 e]⟩ => ⟨a, b, c, d, e⟩
  | _ => ⟨0, 0, 0, 0, 0⟩
def intV : Value → Int
  | .int _ x => x
  | _ => 0
abbrev gRnw : List Value → Hp → Option (Value × Hp × List Prop) := gMade rdF 13 (fun a => (rdOf (cfgV (a.getD 0 undef)) (intV (a.getD 1 undef)) (intV (a.getD 2 undef))).enc) (fun a => ∃ c h k, a = [Cfg.v c, .int .u64 h, .int .i64 k] ∧ Wd h)
theorem gRs_ok : ∀ args hp v hp' pc, gRs args hp = some (v, hp', pc) → ∀ ds, CallOk Tryz.prog rdStepF args hp ⟨v, hp', ds, pc⟩ :=
  gHid_ok (enters (fn := Tryz.f44) (by kernel_rfl) (by kernel_rfl) rfl) (fun _ _ _ => rfl) fun x m rest h => by
    obtain ⟨rfl, h1, h2⟩ := h
    have := rdStep_C _ _ h2
    unfold rdOut at this
    rw [← h1] at this
    exact this
noncomputable def Er1 : Env := (((Em3.add rdStepF gRs).add rdDoneF gRdn).add rdErrF gRer).add rdNewF gRnw
theorem Er1ok : EnvOk Er1 :=
  (((Em3ok.add gRs_ok).add (gAsk_ok (enters (fn := Tryz.f46) (by kernel_rfl) (by kernel_rfl) rfl) (fun _ _ => rfl) fun x rest h => by
    obtain ⟨rfl, h1, h2⟩ := h
    have := rdDone_C _ h2
    rw [← h1] at this
    exact this)).add (gAsk_ok (enters (fn := Tryz.f47) (by kernel_rfl) (by kernel_rfl) rfl) (fun _ _ => rfl) fun x rest h => by
    obtain ⟨rfl, h1, h2⟩ := h
    have := rdErr_C _ h2
    rw [← h1] at this
    exact this)).add (gMade_ok (enters (fn := Tryz.f42) (by kernel_rfl) (by kernel_rfl) rfl) fun args h => by
    obtain ⟨c, h, k, rfl, hh⟩ := h
    exact rdNew_C c h k hh)
/-! What is kept -/
theorem ends_good {r : Rd} (h : r.good) (hq : r.q = 2 ∨ r.q = 3 ∨ r.q = 4) (a b : Int) : (r.ends a b).good :=
  ⟨.inr (.inr (.inr (.inl ⟨rfl, hq⟩))), h.w, fun e => (by cases e), fun e => (by cases e), fun e => (by cases e), fun _ => wd0, fun e => (by rcases e with e | e <;> cases e)⟩
theorem goes_good {r : Rd} (h : r.good) (hp : r.ph = 4 ∨ r.ph = 5) (hq : r.q = 3 ∨ r.q = 4) : r.goes.good := by
  obtain ⟨a0, a1, a2⟩ := h.at' hp
  have eA : w64 (r.at' + 1) = r.at' + 1 := w64_in (by omega) (by omega)
  unfold Rd.goes
  by_cases hA : decide (w64 (r.at' + 1) ≥ (r.l.length : Int)) = true
  · rw [if_pos hA]
    exact ends_good h (by omega) _ _
  · rw [if_neg hA]
    have hA' := of_decide_eq_false (eq_false_of_ne_true hA)
    refine ⟨.inr (.inl ⟨rfl, ?_⟩), h.w, fun e => (by cases e), fun _ => ⟨wd0, .inl rfl⟩, fun e => (by cases e), fun e => (by cases e), fun _ => ⟨?_, ?_, a2⟩⟩
    · rcases hq with e | e
      · exact .inl (by show q3 r.q = 3; rw [e]; rfl)
      · exact .inr (by show q3 r.q = 4; rw [e]; rfl)
    · show 0 ≤ w64 (r.at' + 1); omega
    · show w64 (r.at' + 1) < (r.l.length : Int); omega
theorem found_good {r : Rd} (h : r.good) : r.found.good := by
  unfold Rd.found
  by_cases hn : othL r.w 1 r.slot = []
  · rw [if_pos hn]
    exact ⟨.inr (.inr (.inr (.inl ⟨rfl, .inl rfl⟩))), h.w, fun e => (by cases e), fun e => (by cases e), fun e => (by cases e), fun _ => wd0, fun e => (by rcases e with e | e <;> cases e)⟩
  · rw [if_neg hn]
    have hp := getD_nil hn
    exact ⟨.inr (.inl ⟨rfl, .inl rfl⟩), h.w, fun e => (by cases e), fun _ => ⟨wd0, .inl rfl⟩, fun e => (by cases e), fun e => (by cases e), fun _ => ⟨Int.le_refl _, by show 0 < ((othL r.w 1 r.slot).length : Int); omega, oth_len _ _ _⟩⟩
theorem rdMe_ok {r : Rd} {m : Mm} (h : rdGood r m) : (rdMe r m).ok ∧ (rdMe r m).c = m.c ∧ WfW (rdMe r m).w := by
  obtain ⟨ho, hw, hr⟩ := h
  unfold rdMe
  split
  · rename_i e
    obtain ⟨g1, g2⟩ := hr.en e
    exact enMe_ok ⟨ho, hw, g1, g2, by show 1 ≤ 1000; omega⟩
  · exact ⟨acc_ok ho rfl, rfl, hw⟩
  · exact ⟨acc_ok ho rfl, rfl, hw⟩
  · exact ⟨acc_ok ho (swpW_len _ _ _ _), rfl, hw.swpW _ _ (withI_rng hr.w _ _)⟩
  · rename_i e
    exact jMe_ok ⟨ho, hw, hr.j e⟩
  · rename_i e
    exact oMe_ok ⟨ho, hw, hr.o e⟩
  · rename_i e
    exact lMe_ok ⟨ho, hw, hr.lv e⟩
  · exact ⟨ho, rfl, hw⟩
theorem rdSt_good {r : Rd} {m : Mm} (h : rdGood r m) : (rdSt r m).good := by
  obtain ⟨ho, hw, hr⟩ := h
  obtain ⟨ph, q, key, slot, n, w, oth, no, told, at', en, j, o, lv, l⟩ := r
  have hV : ∀ k n, Wd (vAt m k n) := fun k n => hw.getW _
  rcases hr.pl with ⟨h3, h1⟩ | ⟨h3, hq⟩ | ⟨h3, h1⟩ | ⟨h3, hq⟩ | ⟨h3, hq⟩
  · simp only at h3 h1
    subst h1
    match ph, h3, hr with
    | 0, _, hr =>
      obtain ⟨g1, g2⟩ := hr.en rfl
      have hE : enGood en.w2 m := ⟨ho, hw, g1, g2, by show 1 ≤ 1000; omega⟩
      have hs := enSt_s hE
      show (rdEnter _ _ _).good
      unfold rdEnter
      split
      · split
        · exact ⟨.inr (.inr (.inr (.inr ⟨rfl, by show 1 ≤ 4; omega⟩))), hr.w, fun e => (by cases e), fun e => (by cases e), fun e => (by cases e), fun e => (by cases e), fun e => (by rcases e with e | e <;> cases e)⟩
        · exact ⟨.inl ⟨by show 1 ≤ 3; omega, rfl⟩, hr.w, fun e => (by cases e), fun e => (by cases e), fun e => (by cases e), fun e => (by cases e), fun e => (by rcases e with e | e <;> cases e)⟩
      · exact ⟨.inl ⟨by show 0 ≤ 3; omega, rfl⟩, hr.w, fun _ => ⟨hs.1, by show Wd (enSt en.w2 m).h; rw [hs.2]; exact g2⟩, fun e => (by cases e), fun e => (by cases e), fun e => (by cases e), fun e => (by rcases e with e | e <;> cases e)⟩
    | 1, _, hr => exact ⟨.inl ⟨by show 2 ≤ 3; omega, rfl⟩, hr.w, fun e => (by cases e), fun e => (by cases e), fun e => (by cases e), fun e => (by cases e), fun e => (by rcases e with e | e <;> cases e)⟩
    | 2, _, hr =>
      have g2 : (Rd.atW ⟨2, 1, key, slot, n, w, oth, no, told, at', en, j, o, lv, l⟩ 2 (vAt m 8 key)).good := ⟨.inl ⟨by show 2 ≤ 3; omega, rfl⟩, hV _ _, fun e => (by cases e), fun e => (by cases e), fun e => (by cases e), fun e => (by cases e), fun e => (by rcases e with e | e <;> cases e)⟩
      show (if _ then _ else _ : Rd).good
      split
      · exact found_good g2
      · exact ⟨.inl ⟨by show 3 ≤ 3; omega, rfl⟩, hV _ _, fun e => (by cases e), fun e => (by cases e), fun e => (by cases e), fun e => (by cases e), fun e => (by rcases e with e | e <;> cases e)⟩
    | 3, _, hr =>
      show (if _ then _ else _ : Rd).good
      split
      · exact found_good hr
      · exact ⟨.inl ⟨by show 2 ≤ 3; omega, rfl⟩, hr.w, fun e => (by cases e), fun e => (by cases e), fun e => (by cases e), fun e => (by cases e), fun e => (by rcases e with e | e <;> cases e)⟩
  · simp only at h3 hq
    subst h3
    have hJ : jGood j m := ⟨ho, hw, hr.j rfl⟩
    have hj := jSt_good hJ
    have hat := hr.at' (.inl rfl)
    have gm : Rd.good ⟨4, q, key, slot, n, w, oth, no, told, at', en, jSt j m, o, lv, l⟩ := ⟨.inr (.inl ⟨rfl, hq⟩), hr.w, fun e => (by cases e), fun _ => ⟨hj.1, hj.2.1⟩, fun e => (by cases e), fun e => (by cases e), fun _ => hat⟩
    show (rdJoined _ _).good
    unfold rdJoined
    split
    · exact ⟨.inr (.inr (.inl ⟨rfl, rfl⟩)), hr.w, fun e => (by cases e), fun e => (by cases e), fun _ => wd0, fun e => (by cases e), fun _ => hat⟩
    · split
      · exact goes_good gm (.inl rfl) hq
      · split
        · exact ends_good gm (by show q = 2 ∨ q = 3 ∨ q = 4; omega) _ _
        · exact gm
  · simp only at h3 h1
    subst h3; subst h1
    have hO : oGood o m := ⟨ho, hw, hr.o rfl⟩
    have hs := oSt_s hO
    have hat := hr.at' (.inr rfl)
    have gm : Rd.good ⟨5, 4, key, slot, n, w, oth, no, told, at', en, j, oSt o m, lv, l⟩ := ⟨.inr (.inr (.inl ⟨rfl, rfl⟩)), hr.w, fun e => (by cases e), fun e => (by cases e), fun _ => hs, fun e => (by cases e), fun _ => hat⟩
    show (rdOwned _ _).good
    unfold rdOwned
    split
    · exact goes_good gm (.inr rfl) (.inr rfl)
    · exact gm
  · simp only at h3 hq
    subst h3
    have hL : lGood lv m := ⟨ho, hw, hr.lv rfl⟩
    have hs := lSt_s hL
    show (rdLeft _ _).good
    unfold rdLeft
    split
    · exact ⟨.inr (.inr (.inr (.inr ⟨rfl, by show q ≤ 4; omega⟩))), hr.w, fun e => (by cases e), fun e => (by cases e), fun e => (by cases e), fun e => (by cases e), fun e => (by rcases e with e | e <;> cases e)⟩
    · exact ⟨.inr (.inr (.inr (.inl ⟨rfl, hq⟩))), hr.w, fun e => (by cases e), fun e => (by cases e), fun e => (by cases e), fun _ => hs, fun e => (by rcases e with e | e <;> cases e)⟩
  · simp only at h3 hq
    subst h3
    exact hr
theorem rdStep_good {r : Rd} {m : Mm} (h : rdGood r m) : rdGood (rdSt r m) (rdMe r m) := ⟨(rdMe_ok h).1, (rdMe_ok h).2.2, rdSt_good h⟩
theorem rdOf_good (c : Cfg) {h : Int} (hh : Wd h) (key : Int) : (rdOf c h key).good := by
  unfold rdOf rdNewE rdNew
  have hw : Wd (0 : Int) := wd0
  have key' : ∀ (e : Int), Rd.good ⟨if e = 0 then 0 else 7, if e = 0 then 1 else 0, key, if ofOk h c.s = true then tkS h else 0, 0, 0, 0, e, 0, 0, ⟨tkS h, 0, h, false, false, 0, 0⟩, ⟨0, 0, 0, 0, lookF, 0, 0⟩, ⟨0, 0, 0, 0, false, false⟩, ⟨0, 0, 0, false, false⟩, []⟩ := fun e => by
    by_cases he : e = 0
    · simp only [if_pos he]
      exact ⟨.inl ⟨by show 0 ≤ 3; omega, rfl⟩, hw, fun _ => ⟨hw, hh⟩, fun e => (by cases e), fun e => (by cases e), fun e => (by cases e), fun e => (by rcases e with e | e <;> cases e)⟩
    · simp only [if_neg he]
      exact ⟨.inr (.inr (.inr (.inr ⟨rfl, by show 0 ≤ 4; omega⟩))), hw, fun e => (by cases e), fun e => (by cases e), fun e => (by cases e), fun e => (by cases e), fun e => (by rcases e with e | e <;> cases e)⟩
  exact key' _
end Go.Proofs.YtocfhiafegkfkaaGreat.Ct
