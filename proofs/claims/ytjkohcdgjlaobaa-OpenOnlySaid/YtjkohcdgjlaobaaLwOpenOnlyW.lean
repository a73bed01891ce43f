/- What 'OpenOnly' comes to, of any input: it returns true and changes nothing that was there. (Printed by wip/gen/onlyw.py.) -/
import Derived.Test.YtjkohcdgjlaobaaLwOpenOnlyV
namespace Go.Proofs.Ytjkohcdgjlaobaa.OpenOnlyDone
open Go Go.Proofs Go.Proofs.Ytjkohcdgjlaobaa.Ev Go.Proofs.Ytjkohcdgjlaobaa.Ct
open Go.RowKit

theorem z1 {tl : List Nat} : ∀ k, k < 1 → (0 :: tl).getD k 0 = k := fun k hk => by
  match k, hk with
  | 0, _ => rfl
open Dec in
theorem round (c : Cfg) (l : List Int) (off cap : Nat) (o : Ct.Op) (N : Nat) (wf : List Int) (sl p : Int) (hr : c.Right) (hlen : (l.length : Int) = c.len) (ho : o.good) (hN : N = l.length) (hw : wf.length = l.length)
    (hch : ∀ j : Nat, wf.getD j 0 ≠ l.getD j 0 → (o.e = 0 ∧ (cellIx c 4 sl = (j : Int) ∨ cellIx c 5 sl = (j : Int))) ∨ cellIx c 1 0 = (j : Int) ∨ (p ≥ 0 ∧ (cellIx c 4 p = (j : Int) ∨ cellIx c 6 p = (j : Int)))) (i : Nat) (hlt : i < N) :
    CodeC E50o 1 (bd fn lp) (fr c l off cap o N wf sl p (i : Int) []) (fun ex G => (ex = .normal ∧ ∃ j : Nat, G = fr c l off cap o N wf sl p (j : Int) [] ∧ j ≤ N ∧ N - j < N - i) ∨ (ex ≠ .normal ∧ ex = .exit 0 ∧ G = frX l off o [])) := by
  have hcl := Cfg.len_in hr
  have hrA : ∀ q ∈ rdA c o N wf i, q := pcs_of ⟨decide_eq_true (by omega), by omega, by omega, by rw [addN_eq, mulN_eq]; omega, ⟨hr, by omega, by omega⟩, rfl, ⟨rfl, rfl, ho⟩, trivial⟩
  have hrB : ∀ q ∈ rdB l off i, q := pcs_of ⟨by omega, by omega, by rw [addN_eq]; omega, by rw [jv_eq]; omega, trivial⟩
  have nx : ∃ j : Nat, fr c l off cap o N wf sl p (w64 ((i : Int) + 1)) [] = fr c l off cap o N wf sl p (j : Int) [] ∧ j ≤ N ∧ N - j < N - i := ⟨i + 1, by rw [w64_succ i (by omega)], hlt, by omega⟩
  have ei : addN 0 (mulN i 1) = i := by rw [addN_eq, mulN_eq]; omega
  have heq : wf.getD i 0 = l.getD i 0 → (wf.getD (addN 0 (mulN i 1)) 0 != l.getD (jv off i) 0) = false := fun h => by rw [ei, jv_eq, h]; exact bne_self_eq_false _
  have hne : wf.getD i 0 ≠ l.getD i 0 → (wf.getD (addN 0 (mulN i 1)) 0 != l.getD (jv off i) 0) = true ∧ (((o.e == 0) = true ∧ (atK c i 4 sl = true ∨ atK c i 5 sl = true)) ∨ atK c i 1 0 = true ∨ (decide (p ≥ 0) = true ∧ (atK c i 4 p = true ∨ atK c i 6 p = true))) := fun h => by
    refine ⟨by rw [ei, jv_eq]; exact bne_iff_ne.2 h, ?_⟩
    rcases hch i h with ⟨a, b⟩ | b | ⟨a, b⟩
    · exact .inl ⟨by rw [a]; rfl, b.imp atK_true atK_true⟩
    · exact .inr (.inl (atK_true b))
    · exact .inr (.inr ⟨decide_eq_true a, b.imp atK_true atK_true⟩)
  clear hch
  cases hE : (o.e == 0) with
  | false =>
    cases hT : atK c i 1 0 with
    | true =>
      by_cases he : wf.getD i 0 = l.getD i 0
      · have hv := heq he
        exact CodeC.of_run (fr := fr c l off cap o N wf sl p (i : Int) [t, f, t, f, Dec.l, Dec.l]) E50ook (p_O0H1E c l off cap o N wf sl p i) (pcs_app hrA (pcs_app (pcs_of ⟨hE, hT, trivial⟩) (pcs_app hrB (pcs_of ⟨hv, trivial⟩)))) (show 1 ≤ 6 by omega) z1 (.inl ⟨rfl, nx⟩)
      · obtain ⟨hv, hor⟩ := hne he
        exact CodeC.of_run (fr := fr c l off cap o N wf sl p (i : Int) [t, f, t, t, Dec.l, Dec.l]) E50ook (p_O0H1X c l off cap o N wf sl p i) (pcs_app hrA (pcs_app (pcs_of ⟨hE, hT, trivial⟩) (pcs_app hrB (pcs_of ⟨hv, trivial⟩)))) (show 1 ≤ 6 by omega) z1 (.inl ⟨rfl, nx⟩)
    | false =>
      cases hP : decide (p ≥ 0) with
      | false =>
        by_cases he : wf.getD i 0 = l.getD i 0
        · have hv := heq he
          exact CodeC.of_run (fr := fr c l off cap o N wf sl p (i : Int) [t, f, f, f, f, Dec.l, Dec.l]) E50ook (p_O0H2E c l off cap o N wf sl p i) (pcs_app hrA (pcs_app (pcs_of ⟨hE, hT, hP, trivial⟩) (pcs_app hrB (pcs_of ⟨hv, trivial⟩)))) (show 1 ≤ 6 by omega) z1 (.inl ⟨rfl, nx⟩)
        · obtain ⟨hv, hor⟩ := hne he
          simp [hE, hT, hP] at hor
      | true =>
        cases hS : atK c i 4 p with
        | true =>
          by_cases he : wf.getD i 0 = l.getD i 0
          · have hv := heq he
            exact CodeC.of_run (fr := fr c l off cap o N wf sl p (i : Int) [t, f, f, t, t, f, Dec.l, Dec.l]) E50ook (p_O0H3E c l off cap o N wf sl p i) (pcs_app hrA (pcs_app (pcs_of ⟨hE, hT, hP, hS, trivial⟩) (pcs_app hrB (pcs_of ⟨hv, trivial⟩)))) (show 1 ≤ 6 by omega) z1 (.inl ⟨rfl, nx⟩)
          · obtain ⟨hv, hor⟩ := hne he
            exact CodeC.of_run (fr := fr c l off cap o N wf sl p (i : Int) [t, f, f, t, t, t, Dec.l, Dec.l]) E50ook (p_O0H3X c l off cap o N wf sl p i) (pcs_app hrA (pcs_app (pcs_of ⟨hE, hT, hP, hS, trivial⟩) (pcs_app hrB (pcs_of ⟨hv, trivial⟩)))) (show 1 ≤ 6 by omega) z1 (.inl ⟨rfl, nx⟩)
        | false =>
          by_cases he : wf.getD i 0 = l.getD i 0
          · have hv := heq he
            exact CodeC.of_run (fr := fr c l off cap o N wf sl p (i : Int) [t, f, f, t, f, f, Dec.l, Dec.l]) E50ook (p_O0H4E c l off cap o N wf sl p i) (pcs_app hrA (pcs_app (pcs_of ⟨hE, hT, hP, hS, trivial⟩) (pcs_app hrB (pcs_of ⟨hv, trivial⟩)))) (show 1 ≤ 6 by omega) z1 (.inl ⟨rfl, nx⟩)
          · obtain ⟨hv, hor⟩ := hne he
            have hN : atK c i 6 p = true := by simpa [hE, hT, hP, hS] using hor
            exact CodeC.of_run (fr := fr c l off cap o N wf sl p (i : Int) [t, f, f, t, f, t, Dec.l, f]) E50ook (p_O0H4X c l off cap o N wf sl p i) (pcs_app hrA (pcs_app (pcs_of ⟨hE, hT, hP, hS, trivial⟩) (pcs_app hrB (pcs_of ⟨hv, by rw [hN]; rfl, trivial⟩)))) (show 1 ≤ 6 by omega) z1 (.inl ⟨rfl, nx⟩)
  | true =>
    cases hA : atK c i 4 sl with
    | true =>
      cases hT : atK c i 1 0 with
      | true =>
        by_cases he : wf.getD i 0 = l.getD i 0
        · have hv := heq he
          exact CodeC.of_run (fr := fr c l off cap o N wf sl p (i : Int) [t, t, t, t, f, Dec.l, Dec.l]) E50ook (p_O1H1E c l off cap o N wf sl p i) (pcs_app hrA (pcs_app (pcs_of ⟨hE, hA, hT, trivial⟩) (pcs_app hrB (pcs_of ⟨hv, trivial⟩)))) (show 1 ≤ 6 by omega) z1 (.inl ⟨rfl, nx⟩)
        · obtain ⟨hv, hor⟩ := hne he
          exact CodeC.of_run (fr := fr c l off cap o N wf sl p (i : Int) [t, t, t, t, t, Dec.l, Dec.l]) E50ook (p_O1H1D c l off cap o N wf sl p i) (pcs_app hrA (pcs_app (pcs_of ⟨hE, hA, hT, trivial⟩) (pcs_app hrB (pcs_of ⟨hv, trivial⟩)))) (show 1 ≤ 6 by omega) z1 (.inl ⟨rfl, nx⟩)
      | false =>
        cases hP : decide (p ≥ 0) with
        | false =>
          by_cases he : wf.getD i 0 = l.getD i 0
          · have hv := heq he
            exact CodeC.of_run (fr := fr c l off cap o N wf sl p (i : Int) [t, t, t, f, f, f, Dec.l, Dec.l]) E50ook (p_O1H2E c l off cap o N wf sl p i) (pcs_app hrA (pcs_app (pcs_of ⟨hE, hA, hT, hP, trivial⟩) (pcs_app hrB (pcs_of ⟨hv, trivial⟩)))) (show 1 ≤ 6 by omega) z1 (.inl ⟨rfl, nx⟩)
          · obtain ⟨hv, hor⟩ := hne he
            exact CodeC.of_run (fr := fr c l off cap o N wf sl p (i : Int) [t, t, t, f, f, t, Dec.l, Dec.l]) E50ook (p_O1H2D c l off cap o N wf sl p i) (pcs_app hrA (pcs_app (pcs_of ⟨hE, hA, hT, hP, trivial⟩) (pcs_app hrB (pcs_of ⟨hv, trivial⟩)))) (show 1 ≤ 6 by omega) z1 (.inl ⟨rfl, nx⟩)
        | true =>
          cases hS : atK c i 4 p with
          | true =>
            by_cases he : wf.getD i 0 = l.getD i 0
            · have hv := heq he
              exact CodeC.of_run (fr := fr c l off cap o N wf sl p (i : Int) [t, t, t, f, t, t, f, Dec.l, Dec.l]) E50ook (p_O1H3E c l off cap o N wf sl p i) (pcs_app hrA (pcs_app (pcs_of ⟨hE, hA, hT, hP, hS, trivial⟩) (pcs_app hrB (pcs_of ⟨hv, trivial⟩)))) (show 1 ≤ 6 by omega) z1 (.inl ⟨rfl, nx⟩)
            · obtain ⟨hv, hor⟩ := hne he
              exact CodeC.of_run (fr := fr c l off cap o N wf sl p (i : Int) [t, t, t, f, t, t, t, Dec.l, Dec.l]) E50ook (p_O1H3D c l off cap o N wf sl p i) (pcs_app hrA (pcs_app (pcs_of ⟨hE, hA, hT, hP, hS, trivial⟩) (pcs_app hrB (pcs_of ⟨hv, trivial⟩)))) (show 1 ≤ 6 by omega) z1 (.inl ⟨rfl, nx⟩)
          | false =>
            by_cases he : wf.getD i 0 = l.getD i 0
            · have hv := heq he
              exact CodeC.of_run (fr := fr c l off cap o N wf sl p (i : Int) [t, t, t, f, t, f, f, Dec.l, Dec.l]) E50ook (p_O1H4E c l off cap o N wf sl p i) (pcs_app hrA (pcs_app (pcs_of ⟨hE, hA, hT, hP, hS, trivial⟩) (pcs_app hrB (pcs_of ⟨hv, trivial⟩)))) (show 1 ≤ 6 by omega) z1 (.inl ⟨rfl, nx⟩)
            · obtain ⟨hv, hor⟩ := hne he
              exact CodeC.of_run (fr := fr c l off cap o N wf sl p (i : Int) [t, t, t, f, t, f, t, Dec.l, Dec.l]) E50ook (p_O1H4D c l off cap o N wf sl p i) (pcs_app hrA (pcs_app (pcs_of ⟨hE, hA, hT, hP, hS, trivial⟩) (pcs_app hrB (pcs_of ⟨hv, trivial⟩)))) (show 1 ≤ 6 by omega) z1 (.inl ⟨rfl, nx⟩)
    | false =>
      cases hT : atK c i 1 0 with
      | true =>
        by_cases he : wf.getD i 0 = l.getD i 0
        · have hv := heq he
          exact CodeC.of_run (fr := fr c l off cap o N wf sl p (i : Int) [t, t, f, t, f, Dec.l, Dec.l]) E50ook (p_O2H1E c l off cap o N wf sl p i) (pcs_app hrA (pcs_app (pcs_of ⟨hE, hA, hT, trivial⟩) (pcs_app hrB (pcs_of ⟨hv, trivial⟩)))) (show 1 ≤ 6 by omega) z1 (.inl ⟨rfl, nx⟩)
        · obtain ⟨hv, hor⟩ := hne he
          cases hB : atK c i 5 sl with
          | true =>
            exact CodeC.of_run (fr := fr c l off cap o N wf sl p (i : Int) [t, t, f, t, t, f, Dec.l]) E50ook (p_O2H1D c l off cap o N wf sl p i) (pcs_app hrA (pcs_app (pcs_of ⟨hE, hA, hT, trivial⟩) (pcs_app hrB (pcs_of ⟨hv, by rw [hB]; rfl, trivial⟩)))) (show 1 ≤ 6 by omega) z1 (.inl ⟨rfl, nx⟩)
          | false =>
            exact CodeC.of_run (fr := fr c l off cap o N wf sl p (i : Int) [t, t, f, t, t, t, Dec.l]) E50ook (p_O2H1X c l off cap o N wf sl p i) (pcs_app hrA (pcs_app (pcs_of ⟨hE, hA, hT, trivial⟩) (pcs_app hrB (pcs_of ⟨hv, by rw [hB]; rfl, trivial⟩)))) (show 1 ≤ 6 by omega) z1 (.inl ⟨rfl, nx⟩)
      | false =>
        cases hP : decide (p ≥ 0) with
        | false =>
          by_cases he : wf.getD i 0 = l.getD i 0
          · have hv := heq he
            exact CodeC.of_run (fr := fr c l off cap o N wf sl p (i : Int) [t, t, f, f, f, f, Dec.l, Dec.l]) E50ook (p_O2H2E c l off cap o N wf sl p i) (pcs_app hrA (pcs_app (pcs_of ⟨hE, hA, hT, hP, trivial⟩) (pcs_app hrB (pcs_of ⟨hv, trivial⟩)))) (show 1 ≤ 6 by omega) z1 (.inl ⟨rfl, nx⟩)
          · obtain ⟨hv, hor⟩ := hne he
            cases hB : atK c i 5 sl with
            | true =>
              exact CodeC.of_run (fr := fr c l off cap o N wf sl p (i : Int) [t, t, f, f, f, t, f, Dec.l]) E50ook (p_O2H2D c l off cap o N wf sl p i) (pcs_app hrA (pcs_app (pcs_of ⟨hE, hA, hT, hP, trivial⟩) (pcs_app hrB (pcs_of ⟨hv, by rw [hB]; rfl, trivial⟩)))) (show 1 ≤ 6 by omega) z1 (.inl ⟨rfl, nx⟩)
            | false =>
              simp [hE, hT, hP, hA, hB] at hor
        | true =>
          cases hS : atK c i 4 p with
          | true =>
            by_cases he : wf.getD i 0 = l.getD i 0
            · have hv := heq he
              exact CodeC.of_run (fr := fr c l off cap o N wf sl p (i : Int) [t, t, f, f, t, t, f, Dec.l, Dec.l]) E50ook (p_O2H3E c l off cap o N wf sl p i) (pcs_app hrA (pcs_app (pcs_of ⟨hE, hA, hT, hP, hS, trivial⟩) (pcs_app hrB (pcs_of ⟨hv, trivial⟩)))) (show 1 ≤ 6 by omega) z1 (.inl ⟨rfl, nx⟩)
            · obtain ⟨hv, hor⟩ := hne he
              cases hB : atK c i 5 sl with
              | true =>
                exact CodeC.of_run (fr := fr c l off cap o N wf sl p (i : Int) [t, t, f, f, t, t, t, f, Dec.l]) E50ook (p_O2H3D c l off cap o N wf sl p i) (pcs_app hrA (pcs_app (pcs_of ⟨hE, hA, hT, hP, hS, trivial⟩) (pcs_app hrB (pcs_of ⟨hv, by rw [hB]; rfl, trivial⟩)))) (show 1 ≤ 6 by omega) z1 (.inl ⟨rfl, nx⟩)
              | false =>
                exact CodeC.of_run (fr := fr c l off cap o N wf sl p (i : Int) [t, t, f, f, t, t, t, t, Dec.l]) E50ook (p_O2H3X c l off cap o N wf sl p i) (pcs_app hrA (pcs_app (pcs_of ⟨hE, hA, hT, hP, hS, trivial⟩) (pcs_app hrB (pcs_of ⟨hv, by rw [hB]; rfl, trivial⟩)))) (show 1 ≤ 6 by omega) z1 (.inl ⟨rfl, nx⟩)
          | false =>
            by_cases he : wf.getD i 0 = l.getD i 0
            · have hv := heq he
              exact CodeC.of_run (fr := fr c l off cap o N wf sl p (i : Int) [t, t, f, f, t, f, f, Dec.l, Dec.l]) E50ook (p_O2H4E c l off cap o N wf sl p i) (pcs_app hrA (pcs_app (pcs_of ⟨hE, hA, hT, hP, hS, trivial⟩) (pcs_app hrB (pcs_of ⟨hv, trivial⟩)))) (show 1 ≤ 6 by omega) z1 (.inl ⟨rfl, nx⟩)
            · obtain ⟨hv, hor⟩ := hne he
              cases hB : atK c i 5 sl with
              | true =>
                exact CodeC.of_run (fr := fr c l off cap o N wf sl p (i : Int) [t, t, f, f, t, f, t, f, Dec.l]) E50ook (p_O2H4D c l off cap o N wf sl p i) (pcs_app hrA (pcs_app (pcs_of ⟨hE, hA, hT, hP, hS, trivial⟩) (pcs_app hrB (pcs_of ⟨hv, by rw [hB]; rfl, trivial⟩)))) (show 1 ≤ 6 by omega) z1 (.inl ⟨rfl, nx⟩)
              | false =>
                have hN : atK c i 6 p = true := by simpa [hE, hT, hP, hS, hA, hB] using hor
                exact CodeC.of_run (fr := fr c l off cap o N wf sl p (i : Int) [t, t, f, f, t, f, t, t, f]) E50ook (p_O2H4X c l off cap o N wf sl p i) (pcs_app hrA (pcs_app (pcs_of ⟨hE, hA, hT, hP, hS, trivial⟩) (pcs_app hrB (pcs_of ⟨hv, by rw [hB]; rfl, by rw [hN]; rfl, trivial⟩)))) (show 1 ≤ 6 by omega) z1 (.inl ⟨rfl, nx⟩)
open Dec in
theorem main (c : Cfg) (l : List Int) (off cap : Nat) (hr : c.Right) (hlen : (l.length : Int) = c.len) (hwf : WfW l) : CallC Try.prog fid (A c l off cap) (hp0 l off) (.bool true) (hp0 l off) := by
  have hs := sl_rng hr
  have hcl := Cfg.len_in hr
  have hG : opGood op0 (newM c l) := ⟨newM_ok hlen, hwf, op0_good⟩
  have hR := opRun_good 100 0 _ _ hG
  obtain ⟨l0, l1⟩ : Wd (getW l 0) := hwf.getW 0
  have i40 := ixs_rng hr (k := 4) (n := 0) (.inl rfl) (Int.le_refl _) (by omega)
  have eP : pV l off = getW l 0 % 16 - 1 := by
    unfold pV
    rw [jv_eq, show l.getD 0 0 = getW l 0 from (getW_in (Int.le_refl _)).symm, Int.tmod_eq_emod_of_nonneg l0, w64_in (n := getW l 0 % 16) (by omega) (by omega), w64_in (by omega) (by omega)]
  obtain ⟨hd, hN, hch, hh⟩ : (RR c l).2.1.dn = true ∧ (RR c l).2.2.w.length = l.length ∧ (∀ j : Nat, (RR c l).2.2.w.getD j 0 ≠ l.getD j 0 → ((RR c l).2.1.e = 0 ∧ (cellIx c 4 (tkS (RR c l).2.1.h) = (j : Int) ∨ cellIx c 5 (tkS (RR c l).2.1.h) = (j : Int))) ∨ cellIx c 1 0 = (j : Int) ∨ (pV l off ≥ 0 ∧ (cellIx c 4 (pV l off) = (j : Int) ∨ cellIx c 6 (pV l off) = (j : Int)))) ∧ Wd (RR c l).2.1.h := by
    show (opRun 100 0 op0 (newM c l)).2.1.dn = true ∧ (opRun 100 0 op0 (newM c l)).2.2.w.length = l.length ∧ (∀ j : Nat, (opRun 100 0 op0 (newM c l)).2.2.w.getD j 0 ≠ l.getD j 0 → ((opRun 100 0 op0 (newM c l)).2.1.e = 0 ∧ (cellIx c 4 (tkS (opRun 100 0 op0 (newM c l)).2.1.h) = (j : Int) ∨ cellIx c 5 (tkS (opRun 100 0 op0 (newM c l)).2.1.h) = (j : Int))) ∨ cellIx c 1 0 = (j : Int) ∨ (pV l off ≥ 0 ∧ (cellIx c 4 (pV l off) = (j : Int) ∨ cellIx c 6 (pV l off) = (j : Int)))) ∧ Wd (opRun 100 0 op0 (newM c l)).2.1.h
    rcases aloneAny hr (m := newM c l) rfl hlen (hwf.getW 0) (N := 100) (by omega) with ⟨hno, s', m', q, mw, _⟩ | ⟨f, f0, f1, hf, hlow, k', ap', aw', av', m', W1, q, mc, hn, ht, mw⟩
    · rw [q]
      refine ⟨rfl, by show m'.w.length = _; rw [mw]; rfl, fun j hj => ?_, wd0⟩
      have e : m'.w = l := mw
      exact absurd (by show m'.w.getD j 0 = _; rw [e]) hj
    · rw [q]
      have mw' : m'.w = setW (setW W1 (cellIx c 5 f) (getW l 0 / 16)) (cellIx c 4 f) (mvI (sWd c l f) 2 false) := mw
      have hg : 0 ≤ nuI (sWd c l f) 30 32 ∧ nuI (sWd c l f) 30 32 ≤ 1073741823 := by
        have h1 := nuI_rng (w := sWd c l f) (a := 30) (b := 32) (by decide)
        have h2 : freeI (sWd c l f) c.g = true := hf
        unfold freeI at h2
        rw [Bool.and_eq_true] at h2
        have h3 : ¬ nuI (sWd c l f) 30 32 > c.g := by simpa using h2.2
        have h4 : c.g ≤ 1073741823 := by unfold Cfg.Right at hr; omega
        exact ⟨h1.1, by omega⟩
      have eT : mkT f (nuI (sWd c l f) 30 32) = 16 * nuI (sWd c l f) 30 32 + f + 1 := by
        unfold mkT
        rw [if_pos (mkOk_iff.2 ⟨f0, by omega, hg.1, hg.2⟩)]
      have eS : tkS (mkT f (nuI (sWd c l f) 30 32)) = f := by
        unfold tkS
        rw [eT, if_pos (tkOk_iff.2 (by omega))]
        omega
      refine ⟨rfl, by show m'.w.length = _; rw [mw', setW_len, setW_len, hn.1, setW_len]; rfl, fun j hj => ?_, by show Wd (mkT f (nuI (sWd c l f) 30 32)); rw [eT]; exact ⟨by omega, by omega⟩⟩
      show ((0 : Int) = 0 ∧ (cellIx c 4 (tkS (mkT f (nuI (sWd c l f) 30 32))) = (j : Int) ∨ cellIx c 5 (tkS (mkT f (nuI (sWd c l f) 30 32))) = (j : Int))) ∨ _
      rw [eS]
      by_cases a4 : cellIx c 4 f = (j : Int)
      · exact .inl ⟨rfl, .inl a4⟩
      by_cases a5 : cellIx c 5 f = (j : Int)
      · exact .inl ⟨rfl, .inr a5⟩
      by_cases a1 : cellIx c 1 0 = (j : Int)
      · exact .inr (.inl a1)
      refine .inr (.inr ?_)
      have gj : ∀ w : List Int, getW w (j : Int) = w.getD j 0 := fun w => getW_in (by omega)
      have j0 : (j : Int) ≠ 0 := fun e => a1 (by rw [ix_tally hr, e])
      have hp : ∀ {x : Int}, 4 = x ∨ 6 = x → cellIx c x (pV l off) = (j : Int) → pV l off ≥ 0 := fun {x} _ h => by
        by_cases q0 : 0 ≤ pV l off
        · exact q0
        · unfold cellIx at h
          rw [if_neg (fun y => q0 y.2)] at h
          omega
      by_cases b4 : cellIx c 4 (pV l off) = (j : Int)
      · exact ⟨hp (.inl rfl) b4, .inl b4⟩
      by_cases b6 : cellIx c 6 (pV l off) = (j : Int)
      · exact ⟨hp (.inr rfl) b6, .inr b6⟩
      refine absurd ?_ hj
      show m'.w.getD j 0 = _
      rw [← gj, ← gj, mw', getW_set_ne a4, getW_set_ne a5]
      have hn2 : Near c (pV l off) (setW l (cellIx c 4 f) (mvI (sWd c l f) 1 false)) W1 := by rw [eP]; exact hn
      rw [hn2.2 (j : Int) j0 (fun e => b4 e.symm) (fun e => b6 e.symm), getW_set_ne a4]
  have hNN : (RR c l).2.2.N = l.length := hR.1.1.trans hN
  refine CallC.of_body (E := E50o) (ds := []) (fn := fn) 116 (by kernel_rfl) (by kernel_rfl) (by kernel_rfl) (by kernel_rfl) ?_
  refine KC.of_exec (fr := start c l off cap [Dec.l, Dec.l]) E50ook (p_in c l off cap) (pcs_app (pcs_of ⟨⟨hr, hlen, rfl, rfl⟩, trivial⟩) (pcs_of ⟨rfl, rfl, ⟨rfl, by decide, rfl, hG⟩, rfl, ⟨rfl, rfl, hR.2.2⟩, hh, Int.le_refl _, by omega, by rw [addN_eq]; omega, by rw [jv_eq]; omega, by decide, hR.1, trivial⟩)) (Nat.le_refl _) z1 ?_
  refine KC.loop (m0 := 1) (ι := Nat) (fun i => fr c l off cap (RR c l).2.1 (RR c l).2.2.N (RR c l).2.2.w (tkS (RR c l).2.1.h) (pV l off) (i : Int) []) (fun i => i ≤ (RR c l).2.2.N) (fun i => (RR c l).2.2.N - i) (fun ex fr => ex = .exit 0 ∧ fr = frX l off (RR c l).2.1 []) (fun i hi => ?_) ?_ 0 (Nat.zero_le _)
  · by_cases hlt : i < (RR c l).2.2.N
    · exact round c l off cap _ _ _ _ _ hr hlen hR.2.2 hNN hN hch i hlt
    · exact CodeC.of_run (fr := fr c l off cap (RR c l).2.1 (RR c l).2.2.N (RR c l).2.2.w (tkS (RR c l).2.1.h) (pV l off) (i : Int) [f]) E50ook (p_end c l off cap _ _ _ _ _ i) (pcs_of ⟨decide_eq_false (by omega), trivial⟩) (show 1 ≤ 6 by omega) z1 (.inr ⟨by simp, rfl, rfl⟩)
  rintro ex fr ⟨rfl, rfl⟩
  refine KC.of_exec (fr := frX l off (RR c l).2.1 [Dec.l]) E50ook (p_out l off (RR c l).2.1) (pcs_of ⟨rfl, ⟨rfl, rfl, hR.2.2⟩, trivial⟩) (show 1 ≤ 4 by omega) z1 ?_
  rw [show (RR c l).2.1.dn = true from hd]
  exact KC.done ⟨by simp, [.bool true], [], [0], 1, by kernel_rfl, by simp, by kernel_rfl, rfl, z1⟩
theorem walk (c : Cfg) (v : Value) (l : List Int) (w : World) (hl : RowIn .u64 w v l) :
    Calls Try.prog fid #[c.v, v] w fun e w1 => e = .returned (.bool true) ∧ Below w.heap.size w w1 :=
  law_cells (E' := E50o) (n := 20) E50ok rfl (x := []) hl (fun ρ => rfl) (fun hr hlen off cap => ⟨_, main c l off cap hr hlen (row_wf hl)⟩)
    (fun hr a m cap => ⟨_, _, p_nr c cap a m, pcs_of ⟨by simp [rightB, hr], rfl, trivial⟩⟩)
    (fun hr a m cap hlen => ⟨_, _, p_nl c cap a m, pcs_of ⟨by simp [rightB, hr], hr, by simpa using hlen, rfl, trivial⟩⟩)
end Go.Proofs.Ytjkohcdgjlaobaa.OpenOnlyDone
