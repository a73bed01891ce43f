/- A beginning alone, whatever is pending: what it comes to. -/
import Derived.Test.YtjkohcdgjlaobaaCtOpenP
namespace Go.Proofs.Ytjkohcdgjlaobaa.Ct
open Go Go.Proofs Go.Proofs.Ytjkohcdgjlaobaa.Ev
open Go.RowKit

/-- Words that are those but for the tally, and a slot's status and number. -/
def Near (c : Cfg) (p : Int) (w w' : List Int) : Prop := w'.length = w.length ∧ ∀ j, j ≠ 0 → j ≠ cellIx c 4 p → j ≠ cellIx c 6 p → getW w' j = getW w j
theorem getW_swp_ne {w : List Int} {i j o v : Int} (h : i ≠ j) : getW (swpW w i o v) j = getW w j := by
  unfold swpW
  split
  · exact getW_set_ne h
  · rfl
theorem slot_ne0 {c : Cfg} (hr : c.Right) {k n : Int} (hk : k = 4 ∨ k = 5 ∨ k = 6 ∨ k = 7) : cellIx c k n ≠ 0 := by
  by_cases h0 : 0 ≤ n
  · by_cases h1 : n < c.s
    · have := ixs_rng hr hk h0 h1
      omega
    · have a : ¬ (k = 1 ∨ k = 2) := by omega
      have b : ¬ k = 3 := by omega
      unfold cellIx
      simp only [if_pos (show c.Right ∧ 0 ≤ n from ⟨hr, h0⟩), if_neg a, if_neg b, if_pos hk, if_neg h1]
      decide
  · unfold cellIx
    rw [if_neg (fun h => h0 h.2)]
    decide
theorem helpAll {c : Cfg} (hr : c.Right) {f s seq aw e h nn : Int} {n k : Nat} {m : Mm} (hc : m.c = c) (hl : (m.w.length : Int) = c.len) (ht : getW m.w 0 = aw) (hn : 4 ≤ n) :
    ∃ n' k' av m', n ≤ n' + 4 ∧ opRun n k ⟨3, 1, f, s, seq, aw, 0, e, h, nn⟩ m = opRun n' k' ⟨2, 5, f, s, seq, aw, av, e, h, nn⟩ m' ∧ m'.c = c ∧ Near c (pendB aw) m.w m'.w ∧ getW m'.w 0 = setB aw := by
  obtain ⟨n, rfl⟩ : ∃ j, n = j + 4 := ⟨n - 4, by omega⟩
  have z4 : cellIx c 4 (pendB aw) ≠ 0 := slot_ne0 hr (.inl rfl)
  have z6 : cellIx c 6 (pendB aw) ≠ 0 := slot_ne0 hr (.inr (.inr (.inl rfl)))
  have lpos : 0 < c.len := by
    have hs := sl_rng hr
    have := ixs_rng hr (k := 4) (n := 0) (.inl rfl) (Int.le_refl _) (by omega)
    omega
  -- the number
  let m1 : Mm := mSw m 6 (pendB aw) 0 (seqB aw)
  have e1 : opMe ⟨3, 1, f, s, seq, aw, 0, e, h, nn⟩ m = m1 := rfl
  have w1 : m1.w = swpW m.w (cellIx c 6 (pendB aw)) 0 (seqB aw) := by show swpW m.w (cellIx m.c 6 _) _ _ = _; rw [hc]
  have l1 : (m1.w.length : Int) = c.len := by rw [w1, swpW_len]; exact hl
  have n1 : Near c (pendB aw) m.w m1.w := ⟨by rw [w1, swpW_len], fun j _ _ h6 => by rw [w1, getW_swp_ne (fun x => h6 x.symm)]⟩
  have t1 : getW m1.w 0 = aw := by rw [w1, getW_swp_ne z6]; exact ht
  have c1 : m1.c = c := hc
  rw [opRun_go rfl, show opSt ⟨3, 1, f, s, seq, aw, 0, e, h, nn⟩ m = ⟨3, 2, f, s, seq, aw, 0, e, h, nn⟩ from rfl, e1]
  generalize m1 = m1 at *
  -- the look
  have e2 : opMe ⟨3, 2, f, s, seq, aw, 0, e, h, nn⟩ m1 = mLd m1 4 (pendB aw) := rfl
  have last : ∀ (n' k' : Nat) (av : Int) (m2 : Mm), m2.c = c → (m2.w.length : Int) = c.len → Near c (pendB aw) m.w m2.w → getW m2.w 0 = aw →
      ∃ m', opRun (n' + 1) k' ⟨3, 4, f, s, seq, aw, av, e, h, nn⟩ m2 = opRun n' (k' + 1) ⟨2, 5, f, s, seq, aw, av, e, h, nn⟩ m' ∧ m'.c = c ∧ Near c (pendB aw) m.w m'.w ∧ getW m'.w 0 = setB aw := fun n' k' av m2 c2 l2 n2 t2 => by
    have ew : (opMe ⟨3, 4, f, s, seq, aw, av, e, h, nn⟩ m2).w = setW m2.w 0 (setB aw) := by
      show swpW m2.w (cellIx m2.c 1 0) aw (setB aw) = _
      rw [c2, ix_tally hr]
      exact if_pos t2
    refine ⟨opMe ⟨3, 4, f, s, seq, aw, av, e, h, nn⟩ m2, by rw [opRun_go rfl]; rfl, c2, ⟨by rw [ew, setW_len]; exact n2.1, fun j j0 j4 j6 => ?_⟩, ?_⟩
    · rw [ew, getW_set_ne (fun x => j0 x.symm)]
      exact n2.2 j j0 j4 j6
    · rw [ew]
      exact getW_set_same (Int.le_refl _) (by omega)
  cases hs3 : (nuI (vSt m1 (pendB aw)) 27 3 == 3) with
  | false =>
    have e3 : opSt ⟨3, 2, f, s, seq, aw, 0, e, h, nn⟩ m1 = ⟨3, 4, f, s, seq, aw, vSt m1 (pendB aw), e, h, nn⟩ := by
      simp only [opSt, opHelp, hs3]
      rfl
    rw [opRun_go rfl, e3, e2]
    obtain ⟨m', r1, r2⟩ := last (n + 1) (k + 1 + 1) (vSt m1 (pendB aw)) (mLd m1 4 (pendB aw)) c1 l1 n1 t1
    exact ⟨n + 1, _, _, m', by omega, r1, r2⟩
  | true =>
    have e3 : opSt ⟨3, 2, f, s, seq, aw, 0, e, h, nn⟩ m1 = ⟨3, 3, f, s, seq, aw, vSt m1 (pendB aw), e, h, nn⟩ := by
      simp only [opSt, opHelp, hs3]
      rfl
    have hi : 0 ≤ cellIx c 4 (pendB aw) := by
      by_cases q : 0 ≤ cellIx c 4 (pendB aw)
      · exact q
      · have : vSt m1 (pendB aw) = 0 := by
          show getW m1.w (cellIx m1.c 4 (pendB aw)) = 0
          rw [c1]
          exact getW_out q
        rw [this] at hs3
        cases hs3
    let m2 : Mm := mLd m1 4 (pendB aw)
    have d : dnS m2 4 (pendB aw) (vSt m1 (pendB aw)) = true := by
      show (decide (0 ≤ cellIx m1.c 4 (pendB aw)) && (getW m1.w (cellIx m1.c 4 (pendB aw)) == getW m1.w (cellIx m1.c 4 (pendB aw)))) = true
      rw [c1, decide_eq_true hi, beq_self_eq_true]
      rfl
    have e4 : opSt ⟨3, 3, f, s, seq, aw, vSt m1 (pendB aw), e, h, nn⟩ m2 = ⟨3, 4, f, s, seq, aw, vSt m1 (pendB aw), e, h, nn⟩ := by
      simp only [opSt, opHelp, d, if_true]
    have w3 : ∃ x, (opMe ⟨3, 3, f, s, seq, aw, vSt m1 (pendB aw), e, h, nn⟩ m2).w = swpW m1.w (cellIx c 4 (pendB aw)) (vSt m1 (pendB aw)) x := ⟨mvI (vSt m1 (pendB aw)) 4 (bitI (vSt m1 (pendB aw)) 26), by
      show swpW m1.w (cellIx m1.c 4 (pendB aw)) _ _ = _
      rw [c1]⟩
    obtain ⟨x, w3⟩ := w3
    rw [opRun_go rfl, e3, e2, opRun_go rfl, e4]
    obtain ⟨m', r1, r2⟩ := last n (k + 1 + 1 + 1) (vSt m1 (pendB aw)) (opMe ⟨3, 3, f, s, seq, aw, vSt m1 (pendB aw), e, h, nn⟩ m2) c1 (by rw [w3, swpW_len]; exact l1)
      ⟨by rw [w3, swpW_len]; exact n1.1, fun j j0 j4 j6 => by rw [w3, getW_swp_ne (fun y => j4 y.symm)]; exact n1.2 j j0 j4 j6⟩ (by rw [w3, getW_swp_ne z4]; exact t1)
    exact ⟨n, _, _, m', by omega, r1, r2⟩
/-- From the tally on. -/
theorem tallyAny {c : Cfg} (hr : c.Right) {f : Int} {n k ap : Nat} {s seq aw av e h nn : Int} {m : Mm} (hc : m.c = c) (hl : (m.w.length : Int) = c.len) (hw : Wd (getW m.w 0)) (hn : 8 ≤ n) :
    ∃ k' ap' aw' av' m' W, opRun n k ⟨2, ap, f, s, seq, aw, av, e, h, nn⟩ m = (k', ⟨7, ap', f, s, getW m.w 0 / 16, aw', av', 0, mkT f (nuI s 30 32), getW m.w 0 / 16⟩, m') ∧ m'.c = c ∧ Near c (getW m.w 0 % 16 - 1) m.w W ∧ getW W 0 % 16 = 0 ∧ m'.w = setW (setW W (cellIx c 5 f) (getW m.w 0 / 16)) (cellIx c 4 f) (mvI s 2 false) := by
  obtain ⟨h0, h1⟩ := hw
  have ep := pendB_eq h0 h1
  have es : seqB (getW m.w 0) = getW m.w 0 / 16 := seqB_eq
  by_cases hp : pendB (getW m.w 0) < 0
  · obtain ⟨m', q1, q2, q3⟩ := tallyOn hr (f := f) (n := n) (k := k) (ap := ap) (s := s) (seq := seq) (aw := aw) (av := av) (e := e) (h := h) (nn := nn) hc hp (by omega)
    rw [es] at q1 q2
    exact ⟨_, _, _, _, m', m.w, q1, q3.trans hc, ⟨rfl, fun _ _ _ _ => rfl⟩, by omega, q2⟩
  · obtain ⟨n, rfl⟩ : ∃ j, n = j + 1 := ⟨n - 1, by omega⟩
    have ht : vTl m = getW m.w 0 := by show getW m.w (cellIx m.c 1 0) = _; rw [hc, ix_tally hr]
    have e1 : opSt ⟨2, ap, f, s, seq, aw, av, e, h, nn⟩ m = ⟨3, 1, f, s, seqB (getW m.w 0), getW m.w 0, 0, e, h, nn⟩ := by
      have q : decide (pendB (getW m.w 0) ≥ 0) = true := decide_eq_true (by omega)
      simp only [opSt, ht, q, if_true]
    rw [opRun_go rfl, e1]
    obtain ⟨n', k', av', m1, a1, a2, a3, a4, a5⟩ := helpAll hr (f := f) (s := s) (seq := seqB (getW m.w 0)) (aw := getW m.w 0) (e := e) (h := h) (nn := nn) (n := n) (k := k + 1) (m := opMe ⟨2, ap, f, s, seq, aw, av, e, h, nn⟩ m) hc hl rfl (by omega)
    have eb := setB_eq h0 h1
    have hp2 : pendB (getW m1.w 0) < 0 := by
      rw [a5, eb, pendB_eq (by omega) (by omega)]
      omega
    obtain ⟨m', q1, q2, q3⟩ := tallyOn hr (f := f) (n := n') (k := k') (ap := 5) (s := s) (seq := seqB (getW m.w 0)) (aw := getW m.w 0) (av := av') (e := e) (h := h) (nn := nn) a3 hp2 (by omega)
    have es2 : seqB (getW m1.w 0) = getW m.w 0 / 16 := by rw [seqB_eq, a5, eb]; omega
    rw [es2] at q1 q2
    rw [ep] at a4
    exact ⟨_, _, _, _, m', m1.w, a2.trans q1, q3.trans a3, a4, by rw [a5, eb]; omega, q2⟩
/-- A beginning alone. -/
theorem aloneAny {c : Cfg} (hr : c.Right) {m : Mm} (hc : m.c = c) (hl : (m.w.length : Int) = c.len) (hw : Wd (getW m.w 0)) {N : Nat} (hN : 40 ≤ N) :
    ((∀ j, 0 ≤ j → j < c.s → freeI (sWd c m.w j) c.g = false) ∧ ∃ s' m', opRun N 0 op0 m = (c.s.toNat, ⟨6, 0, c.s, s', 0, 0, 0, 6, 0, 0⟩, m') ∧ m'.w = m.w ∧ m'.c = c) ∨
    ∃ f, 0 ≤ f ∧ f < c.s ∧ freeI (sWd c m.w f) c.g = true ∧ (∀ j, 0 ≤ j → j < f → freeI (sWd c m.w j) c.g = false) ∧
      ∃ k' ap' aw' av' m' W, opRun N 0 op0 m = (k', ⟨7, ap', f, sWd c m.w f, getW m.w 0 / 16, aw', av', 0, mkT f (nuI (sWd c m.w f) 30 32), getW m.w 0 / 16⟩, m') ∧ m'.c = c ∧
        Near c (getW m.w 0 % 16 - 1) (setW m.w (cellIx c 4 f) (mvI (sWd c m.w f) 1 false)) W ∧ getW W 0 % 16 = 0 ∧ m'.w = setW (setW W (cellIx c 5 f) (getW m.w 0 / 16)) (cellIx c 4 f) (mvI (sWd c m.w f) 2 false) := by
  have hs := sl_rng hr
  rcases first_or (fun j => freeI (sWd c m.w j) c.g) c.s.toNat with h | ⟨f, h1, h2, h3, h4⟩
  · refine .inl ⟨fun j h0 h1 => h j h0 (by omega), ?_⟩
    obtain ⟨s', m', q1, q2, q3⟩ := walkNo hr (c.s.toNat - 1) 0 N 0 0 0 0 0 0 0 0 0 m hc (by omega) (Int.le_refl _) (fun j h0 h1 => h j h0 (by omega)) (by omega)
    refine ⟨s', m', ?_, q2, q3.trans hc⟩
    show opRun N 0 ⟨0, 0, 0, 0, 0, 0, 0, 0, 0, 0⟩ m = _
    rw [q1]
    congr 1
    omega
  · refine .inr ⟨f, h1, by omega, h3, h4, ?_⟩
    have i4 := ixs_rng hr (k := 4) (n := f) (.inl rfl) h1 (by omega)
    obtain ⟨m1, q1, q2, q3⟩ := walkYes hr (f := f) (by omega) f.toNat 0 N 0 0 0 0 0 0 0 0 0 m hc (by omega) (Int.le_refl _) (fun j h0 h1 => h4 j h0 h1) h3 (by omega)
    have e0 : opRun N 0 op0 m = opRun (N - (f.toNat + 1)) (0 + (f.toNat + 1)) ⟨1, 0, f, sWd c m.w f, 0, 0, 0, 0, 0, 0⟩ m1 := q1
    have c1 : m1.c = c := q3.trans hc
    obtain ⟨n, hn⟩ : ∃ j, N - (f.toNat + 1) = j + 1 := ⟨N - (f.toNat + 1) - 1, by omega⟩
    have hd : dnS m1 4 f (sWd c m.w f) = true := by
      show (decide (0 ≤ cellIx m1.c 4 f) && (getW m1.w (cellIx m1.c 4 f) == getW m.w (cellIx c 4 f))) = true
      rw [c1, q2, decide_eq_true (by omega)]
      simp
    have e1 : opSt ⟨1, 0, f, sWd c m.w f, 0, 0, 0, 0, 0, 0⟩ m1 = ⟨2, 0, f, sWd c m.w f, 0, 0, 0, 0, 0, 0⟩ := by
      simp only [opSt, hd, if_true]
    have ew : (opMe ⟨1, 0, f, sWd c m.w f, 0, 0, 0, 0, 0, 0⟩ m1).w = setW m.w (cellIx c 4 f) (mvI (sWd c m.w f) 1 false) := by
      show swpW m1.w (cellIx m1.c 4 f) (getW m.w (cellIx c 4 f)) _ = _
      rw [c1, q2]
      exact if_pos rfl
    have et : getW (opMe ⟨1, 0, f, sWd c m.w f, 0, 0, 0, 0, 0, 0⟩ m1).w 0 = getW m.w 0 := by
      rw [ew]
      exact getW_set_ne (by omega)
    rw [hn, opRun_go rfl, e1] at e0
    obtain ⟨k', ap', aw', av', m', W, r1, r2, r3, r4, r5⟩ := tallyAny hr (f := f) (n := n) (k := 0 + (f.toNat + 1) + 1) (ap := 0) (s := sWd c m.w f) (seq := 0) (aw := 0) (av := 0) (e := 0) (h := 0) (nn := 0) (m := opMe ⟨1, 0, f, sWd c m.w f, 0, 0, 0, 0, 0, 0⟩ m1) c1 (by rw [ew, setW_len]; exact hl) (by rw [et]; exact hw) (by omega)
    rw [et] at r1 r3 r5
    rw [ew] at r3
    exact ⟨k', ap', aw', av', m', W, e0.trans r1, r2, r3, r4, r5⟩
end Go.Proofs.Ytjkohcdgjlaobaa.Ct
