/- A beginning alone: what it comes to. -/
import Derived.Test.YtjkohcdgjlaobaaCtAl9
namespace Go.Proofs.Ytjkohcdgjlaobaa.Ct
open Go Go.Proofs Go.Proofs.Ytjkohcdgjlaobaa.Ev
open Go.RowKit

abbrev sWd (c : Cfg) (w : List Int) (n : Int) : Int := getW w (cellIx c 4 n)
theorem opRun_dn {o : Op} (h : o.dn = true) (n k : Nat) (m : Mm) : opRun n k o m = (k, o, m) := by
  cases n with
  | zero => rfl
  | succ n => unfold opRun; rw [if_pos h]
theorem opRun_go {o : Op} (h : o.dn = false) (n k : Nat) (m : Mm) : opRun (n + 1) k o m = opRun n (k + 1) (opSt o m) (opMe o m) := by
  rw [opRun, if_neg (by rw [h]; decide)]
theorem sl_rng {c : Cfg} (hr : c.Right) : 1 ≤ c.s ∧ c.s ≤ 12 := by
  unfold Cfg.Right at hr
  omega
theorem ixs {c : Cfg} (hr : c.Right) {k n : Int} (hk : k = 4 ∨ k = 5 ∨ k = 6 ∨ k = 7) (h0 : 0 ≤ n) (h1 : n < c.s) : cellIx c k n = 2 + c.t + (k - 4) + n * 4 := by
  unfold cellIx
  rw [if_pos ⟨hr, h0⟩, if_neg (by omega), if_neg (by omega), if_pos hk, if_pos h1]
theorem ixs_rng {c : Cfg} (hr : c.Right) {k n : Int} (hk : k = 4 ∨ k = 5 ∨ k = 6 ∨ k = 7) (h0 : 0 ≤ n) (h1 : n < c.s) : 3 ≤ cellIx c k n ∧ cellIx c k n < c.len := by
  rw [ixs hr hk h0 h1]
  have hl : c.len = 2 + c.t + 4 * c.s + c.k := if_pos hr
  unfold Cfg.Right at hr
  omega
/-- No slot is free. -/
theorem walkNo {c : Cfg} (hr : c.Right) : ∀ (d : Nat) (i : Int) (n k ap : Nat) (s seq aw av e h nn : Int) (m : Mm), m.c = c → c.s - i = ((d + 1 : Nat) : Int) → 0 ≤ i → (∀ j, i ≤ j → j < c.s → freeI (sWd c m.w j) c.g = false) → d + 1 ≤ n →
    ∃ s' m', opRun n k ⟨0, ap, i, s, seq, aw, av, e, h, nn⟩ m = (k + (d + 1), ⟨6, ap, c.s, s', seq, aw, av, 6, h, nn⟩, m') ∧ m'.w = m.w ∧ m'.c = m.c
  | d, i, 0, k, ap, s, seq, aw, av, e, h, nn, m, hc, hd, h0, hno, hn => by omega
  | d, i, n + 1, k, ap, s, seq, aw, av, e, h, nn, m, hc, hd, h0, hno, hn => by
    have hs := sl_rng hr
    have hw : w64 (i + 1) = i + 1 := w64_in (by omega) (by omega)
    have hf : freeI (vSt m i) m.c.g = false := by
      show freeI (getW m.w (cellIx m.c 4 i)) m.c.g = false
      rw [hc]
      exact hno i (Int.le_refl _) (by omega)
    have e1 : opSt ⟨0, ap, i, s, seq, aw, av, e, h, nn⟩ m = opGo ⟨0, ap, i, vSt m i, seq, aw, av, e, h, nn⟩ m.c.s := by
      simp only [opSt, hf, Bool.false_eq_true, if_false]
    rw [opRun_go rfl, e1]
    cases d with
    | zero =>
      have e2 : opGo ⟨0, ap, i, vSt m i, seq, aw, av, e, h, nn⟩ m.c.s = ⟨6, ap, c.s, vSt m i, seq, aw, av, 6, h, nn⟩ := by
        have q : w64 (i + 1) = c.s := by omega
        simp only [opGo, hc, q, ge_iff_le, Int.le_refl, if_true]
      rw [e2, opRun_dn rfl]
      exact ⟨_, _, rfl, rfl, rfl⟩
    | succ d =>
      have e2 : opGo ⟨0, ap, i, vSt m i, seq, aw, av, e, h, nn⟩ m.c.s = ⟨0, ap, i + 1, vSt m i, seq, aw, av, e, h, nn⟩ := by
        have q : ¬ (i + 1 ≥ c.s) := by omega
        simp only [opGo, hw, hc, q, if_false]
      rw [e2]
      obtain ⟨s', m', h1, h2, h3⟩ := walkNo hr d (i + 1) n (k + 1) ap (vSt m i) seq aw av e h nn (mLd m 4 i) hc (by omega) (by omega) (fun j hj => hno j (by omega)) (by omega)
      refine ⟨s', m', ?_, h2, h3⟩
      show opRun n (k + 1) _ (mLd m 4 i) = _
      rw [h1]
      congr 1
      omega
/-- The first slot that is free. -/
theorem walkYes {c : Cfg} (hr : c.Right) {f : Int} (hf1 : f < c.s) : ∀ (d : Nat) (i : Int) (n k ap : Nat) (s seq aw av e h nn : Int) (m : Mm), m.c = c → f - i = (d : Int) → 0 ≤ i → (∀ j, i ≤ j → j < f → freeI (sWd c m.w j) c.g = false) → freeI (sWd c m.w f) c.g = true → d + 1 ≤ n →
    ∃ m', opRun n k ⟨0, ap, i, s, seq, aw, av, e, h, nn⟩ m = opRun (n - (d + 1)) (k + (d + 1)) ⟨1, ap, f, sWd c m.w f, seq, aw, av, e, h, nn⟩ m' ∧ m'.w = m.w ∧ m'.c = m.c
  | d, i, 0, k, ap, s, seq, aw, av, e, h, nn, m, hc, hd, h0, hno, hf, hn => by omega
  | d, i, n + 1, k, ap, s, seq, aw, av, e, h, nn, m, hc, hd, h0, hno, hf, hn => by
    have hs := sl_rng hr
    have hw : w64 (i + 1) = i + 1 := w64_in (by omega) (by omega)
    have hv : vSt m i = sWd c m.w i := by show getW m.w (cellIx m.c 4 i) = _; rw [hc]
    rw [opRun_go rfl]
    cases d with
    | zero =>
      have q : i = f := by omega
      subst q
      have e1 : opSt ⟨0, ap, i, s, seq, aw, av, e, h, nn⟩ m = ⟨1, ap, i, sWd c m.w i, seq, aw, av, e, h, nn⟩ := by
        simp only [opSt, hv, hc, hf, if_true]
      rw [e1]
      exact ⟨mLd m 4 i, rfl, rfl, rfl⟩
    | succ d =>
      have hfi : freeI (vSt m i) m.c.g = false := by rw [hv, hc]; exact hno i (Int.le_refl _) (by omega)
      have e1 : opSt ⟨0, ap, i, s, seq, aw, av, e, h, nn⟩ m = opGo ⟨0, ap, i, vSt m i, seq, aw, av, e, h, nn⟩ m.c.s := by
        simp only [opSt, hfi, Bool.false_eq_true, if_false]
      have e2 : opGo ⟨0, ap, i, vSt m i, seq, aw, av, e, h, nn⟩ m.c.s = ⟨0, ap, i + 1, vSt m i, seq, aw, av, e, h, nn⟩ := by
        have q : ¬ (i + 1 ≥ c.s) := by omega
        simp only [opGo, hw, hc, q, if_false]
      rw [e1, e2]
      obtain ⟨m', h1, h2, h3⟩ := walkYes hr hf1 d (i + 1) n (k + 1) ap (vSt m i) seq aw av e h nn (mLd m 4 i) hc (by omega) (by omega) (fun j hj => hno j (by omega)) hf (by omega)
      refine ⟨m', ?_, h2, h3⟩
      show opRun n (k + 1) _ (mLd m 4 i) = _
      rw [h1]
      show opRun (n - (d + 1)) (k + 1 + (d + 1)) _ m' = opRun (n + 1 - (d + 1 + 1)) (k + (d + 1 + 1)) _ m'
      rw [show n + 1 - (d + 1 + 1) = n - (d + 1) by omega, show k + 1 + (d + 1) = k + (d + 1 + 1) by omega]
      rfl
/-- The words behind a beginning that got a slot, where nothing was pending. -/
def gotW (c : Cfg) (w : List Int) (f : Int) : List Int := setW (setW (setW w (cellIx c 4 f) (mvI (sWd c w f) 1 false)) (cellIx c 5 f) (seqB (getW w 0))) (cellIx c 4 f) (mvI (sWd c w f) 2 false)
/-- From the tally on, where nothing is pending. -/
theorem tallyOn {c : Cfg} (hr : c.Right) {f : Int} {n k ap : Nat} {s seq aw av e h nn : Int} {m : Mm} (hc : m.c = c) (hp : pendB (getW m.w 0) < 0) (hn : 3 ≤ n) :
    ∃ m', opRun n k ⟨2, ap, f, s, seq, aw, av, e, h, nn⟩ m = (k + 3, ⟨7, ap, f, s, seqB (getW m.w 0), aw, av, 0, mkT f (nuI s 30 32), seqB (getW m.w 0)⟩, m') ∧ m'.w = setW (setW m.w (cellIx c 5 f) (seqB (getW m.w 0))) (cellIx c 4 f) (mvI s 2 false) ∧ m'.c = m.c := by
  obtain ⟨n, rfl⟩ : ∃ j, n = j + 3 := ⟨n - 3, by omega⟩
  have ht : vTl m = getW m.w 0 := by show getW m.w (cellIx m.c 1 0) = _; rw [hc, ix_tally hr]
  have e1 : opSt ⟨2, ap, f, s, seq, aw, av, e, h, nn⟩ m = ⟨4, ap, f, s, seqB (getW m.w 0), aw, av, e, h, nn⟩ := by
    have q : decide (pendB (getW m.w 0) ≥ 0) = false := decide_eq_false (by omega)
    simp only [opSt, ht, q]
    rfl
  rw [opRun_go rfl, e1, opRun_go rfl, opRun_go rfl, opRun_dn rfl]
  refine ⟨_, rfl, ?_, rfl⟩
  show setW (setW m.w (cellIx m.c 5 f) (seqB (getW m.w 0))) (cellIx m.c 4 f) (mvI s 2 false) = _
  rw [hc]
theorem got {c : Cfg} (hr : c.Right) {f : Int} (h0 : 0 ≤ f) (h1 : f < c.s) {n k ap : Nat} {seq aw av e h nn : Int} {m : Mm} (hc : m.c = c) (hp : pendB (getW m.w 0) < 0) (hn : 4 ≤ n) :
    ∃ m', opRun n k ⟨1, ap, f, sWd c m.w f, seq, aw, av, e, h, nn⟩ m = (k + 4, ⟨7, ap, f, sWd c m.w f, seqB (getW m.w 0), aw, av, 0, mkT f (nuI (sWd c m.w f) 30 32), seqB (getW m.w 0)⟩, m') ∧ m'.w = gotW c m.w f ∧ m'.c = m.c := by
  obtain ⟨n, rfl⟩ : ∃ j, n = j + 1 := ⟨n - 1, by omega⟩
  have i4 := ixs_rng hr (k := 4) (.inl rfl) h0 h1
  have hd : dnS m 4 f (sWd c m.w f) = true := by
    show (decide (0 ≤ cellIx m.c 4 f) && (getW m.w (cellIx m.c 4 f) == getW m.w (cellIx c 4 f))) = true
    rw [hc, decide_eq_true (by omega)]
    simp
  have e1 : opSt ⟨1, ap, f, sWd c m.w f, seq, aw, av, e, h, nn⟩ m = ⟨2, ap, f, sWd c m.w f, seq, aw, av, e, h, nn⟩ := by
    simp only [opSt, hd, if_true]
  have ew : (opMe ⟨1, ap, f, sWd c m.w f, seq, aw, av, e, h, nn⟩ m).w = setW m.w (cellIx c 4 f) (mvI (sWd c m.w f) 1 false) := by
    show swpW m.w (cellIx m.c 4 f) (getW m.w (cellIx c 4 f)) _ = _
    rw [hc]
    exact if_pos rfl
  have et : getW (opMe ⟨1, ap, f, sWd c m.w f, seq, aw, av, e, h, nn⟩ m).w 0 = getW m.w 0 := by
    rw [ew]
    exact getW_set_ne (by omega)
  obtain ⟨m', q1, q2, q3⟩ := tallyOn hr (f := f) (n := n) (k := k + 1) (ap := ap) (s := sWd c m.w f) (seq := seq) (aw := aw) (av := av) (e := e) (h := h) (nn := nn) (m := opMe ⟨1, ap, f, sWd c m.w f, seq, aw, av, e, h, nn⟩ m) hc (by rw [et]; exact hp) (by omega)
  rw [et] at q1 q2
  rw [ew] at q2
  refine ⟨m', ?_, q2, q3⟩
  rw [opRun_go rfl, e1, q1]
/-- The first one of some that are told. -/
theorem first_or (p : Int → Bool) : ∀ (n : Nat), (∀ j : Int, 0 ≤ j → j < n → p j = false) ∨ ∃ f : Int, 0 ≤ f ∧ f < n ∧ p f = true ∧ ∀ j : Int, 0 ≤ j → j < f → p j = false
  | 0 => .inl fun j h0 h1 => by omega
  | n + 1 => by
    rcases first_or p n with h | ⟨f, h1, h2, h3, h4⟩
    · cases hn : p (n : Int) with
      | true => exact .inr ⟨n, by omega, by omega, hn, h⟩
      | false =>
        refine .inl fun j h0 h1 => ?_
        by_cases e : j = (n : Int)
        · rw [e]; exact hn
        · exact h j h0 (by omega)
    · exact .inr ⟨f, h1, by omega, h3, h4⟩
/-- A beginning alone, where nothing is pending: it is full, or it gets the first slot that is free. -/
theorem alone {c : Cfg} (hr : c.Right) {m : Mm} (hc : m.c = c) (hp : pendB (getW m.w 0) < 0) {N : Nat} (hN : 30 ≤ N) :
    ((∀ j, 0 ≤ j → j < c.s → freeI (sWd c m.w j) c.g = false) ∧ ∃ s' m', opRun N 0 op0 m = (c.s.toNat, ⟨6, 0, c.s, s', 0, 0, 0, 6, 0, 0⟩, m') ∧ m'.w = m.w ∧ m'.c = c) ∨
    ∃ f, 0 ≤ f ∧ f < c.s ∧ freeI (sWd c m.w f) c.g = true ∧ (∀ j, 0 ≤ j → j < f → freeI (sWd c m.w j) c.g = false) ∧ ∃ m', opRun N 0 op0 m = (f.toNat + 5, ⟨7, 0, f, sWd c m.w f, seqB (getW m.w 0), 0, 0, 0, mkT f (nuI (sWd c m.w f) 30 32), seqB (getW m.w 0)⟩, m') ∧ m'.w = gotW c m.w f ∧ m'.c = c := by
  have hs := sl_rng hr
  rcases first_or (fun j => freeI (sWd c m.w j) c.g) c.s.toNat with h | ⟨f, h1, h2, h3, h4⟩
  · refine .inl ⟨fun j h0 h1 => h j h0 (by omega), ?_⟩
    obtain ⟨s', m', q1, q2, q3⟩ := walkNo hr (c.s.toNat - 1) 0 N 0 0 0 0 0 0 0 0 0 m hc (by omega) (Int.le_refl _) (fun j h0 h1 => h j h0 (by omega)) (by omega)
    refine ⟨s', m', ?_, q2, q3.trans hc⟩
    show opRun N 0 ⟨0, 0, 0, 0, 0, 0, 0, 0, 0, 0⟩ m = _
    rw [q1]
    congr 1
    omega
  · refine .inr ⟨f, h1, by omega, h3, h4, ?_⟩
    obtain ⟨m1, q1, q2, q3⟩ := walkYes hr (f := f) (by omega) f.toNat 0 N 0 0 0 0 0 0 0 0 0 m hc (by omega) (Int.le_refl _) (fun j h0 h1 => h4 j h0 h1) h3 (by omega)
    have e0 : opRun N 0 op0 m = opRun (N - (f.toNat + 1)) (0 + (f.toNat + 1)) ⟨1, 0, f, sWd c m.w f, 0, 0, 0, 0, 0, 0⟩ m1 := q1
    rw [← q2] at e0
    obtain ⟨m', r1, r2, r3⟩ := got hr h1 (by omega) (n := N - (f.toNat + 1)) (k := 0 + (f.toNat + 1)) (ap := 0) (seq := 0) (aw := 0) (av := 0) (e := 0) (h := 0) (nn := 0) (m := m1) (q3.trans hc) (by rw [q2]; exact hp) (by omega)
    rw [r1] at e0
    rw [q2] at e0 r2
    refine ⟨m', ?_, r2, r3.trans (q3.trans hc)⟩
    rw [e0]
    congr 1
    omega
end Go.Proofs.Ytjkohcdgjlaobaa.Ct
