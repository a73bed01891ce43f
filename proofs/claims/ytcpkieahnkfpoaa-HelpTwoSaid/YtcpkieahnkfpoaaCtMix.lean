/- Helps of one commit, whose steps are mixed, leave what one leaves. -/
import Derived.Test.YtcpkieahnkfpoaaCtEnds
namespace Go.Proofs.Ytcpkieahnkfpoaa.Ct
open Go Go.Proofs Go.Proofs.Ytcpkieahnkfpoaa.Ev
open Go.RowKit

theorem ix_slot {c : Cfg} (hr : c.Right) {k sl : Int} (hk : k = 4 ∨ k = 5 ∨ k = 6 ∨ k = 7) (h0 : 0 ≤ sl) (h1 : sl < c.s) : cellIx c k sl = 2 + c.t + (k - 4) + sl * 4 := by
  unfold cellIx
  rw [if_pos ⟨hr, h0⟩, if_neg (by omega), if_neg (by omega), if_pos hk, if_pos h1]
theorem ix_none {c : Cfg} {k sl : Int} (hk : k = 4 ∨ k = 5 ∨ k = 6 ∨ k = 7) (h1 : ¬ sl < c.s) : cellIx c k sl = -1 := by
  have a : ¬ (k = 1 ∨ k = 2) := by omega
  have b : ¬ k = 3 := by omega
  unfold cellIx
  by_cases hh : c.Right ∧ 0 ≤ sl
  · simp only [if_pos hh, if_neg a, if_neg b, if_pos hk, if_neg h1]
  · simp only [if_neg hh]
theorem swp_hit {w : List Int} {i o v : Int} (h : getW w i = o) : swpW w i o v = setW w i v := by
  unfold swpW
  rw [if_pos h]
theorem swp_miss {w : List Int} {i o v : Int} (h : getW w i ≠ o) : swpW w i o v = w := by
  unfold swpW
  rw [if_neg h]
theorem setW_neg {w : List Int} {v : Int} : setW w (-1) v = w := setW_out (by omega)
theorem getW_neg {w : List Int} : getW w (-1) = 0 := getW_out (by omega)
theorem setW_setW {w : List Int} {i a b : Int} : setW (setW w i a) i b = setW w i b := by
  by_cases h : 0 ≤ i
  · rw [setW_in h, setW_in h, setW_in h, List.set_set]
  · rw [setW_out h, setW_out h, setW_out h]
theorem setW_comm {w : List Int} {i j a b : Int} (h : i ≠ j) : setW (setW w i a) j b = setW (setW w j b) i a := by
  by_cases hi : 0 ≤ i
  · by_cases hj : 0 ≤ j
    · rw [setW_in hi, setW_in hj, setW_in hj, setW_in hi, List.set_comm _ _ (by omega)]
    · rw [setW_out hj, setW_out hj]
  · rw [setW_out hi, setW_out hi]
theorem setW_self {w : List Int} {i : Int} : setW w i (getW w i) = w := by
  by_cases hi : 0 ≤ i
  · rw [setW_in hi, getW_in hi, set_same]
  · rw [setW_out hi]
theorem stB_mv {s : Int} (h : Wd s) (b : Bool) : stB (mvB s b) = 4 := by
  have e := mvB_eq h.1 h.2 b
  have r := mvB_rng s b
  rw [stB_eq r.1 r.2, e]
  unfold stW mvW
  cases b
  · simp only [Bool.false_eq_true, if_false]
    have := h.1
    omega
  · simp only [if_true]
    have := h.1
    omega
theorem stB_zero : stB 0 = 0 := by decide +kernel

section
variable (c : Cfg) (l : List Int) (w : Int)
def p6 : Int := cellIx c 6 (pendB w)
def p4 : Int := cellIx c 4 (pendB w)
def N0 : Int := getW l (p6 c w)
def S0 : Int := getW l (p4 c w)
def N1 : Int := if N0 c l w = 0 then seqB w else N0 c l w
def S1 : Int := if stB (S0 c l w) = 3 then mvB (S0 c l w) (bsB (S0 c l w)) else S0 c l w
/-- The words, when the number, the status and the Tally are these. -/
def tri (n s t : Int) : List Int := setW (setW (setW l (p6 c w) n) (p4 c w) s) (cellIx c 1 0) t
/-- What is true of a help that stands somewhere. -/
def HInv (k : Hk) (x n s t : Int) : Prop :=
  match k with
  | .num => True
  | .look => n = N1 c l w
  | .lay => n = N1 c l w ∧ x = S0 c l w ∧ stB (S0 c l w) = 3
  | .set => n = N1 c l w ∧ s = S1 c l w
  | .fin => n = N1 c l w ∧ s = S1 c l w ∧ t = setB w
structure GInv (n s t : Int) : Prop where
  n : n = N0 c l w ∨ n = N1 c l w
  s : s = S0 c l w ∨ s = S1 c l w
  t : t = w ∨ t = setB w
end
theorem HInv.up {c : Cfg} {l : List Int} {w : Int} {k : Hk} {x n s t n' s' t' : Int} (h : HInv c l w k x n s t) (hn : n = N1 c l w → n' = N1 c l w) (hs : s = S1 c l w → s' = S1 c l w) (ht : t = setB w → t' = setB w) : HInv c l w k x n' s' t' := by
  cases k with
  | num => trivial
  | look => exact hn h
  | lay => exact ⟨hn h.1, h.2⟩
  | set => exact ⟨hn h.1, hs h.2⟩
  | fin => exact ⟨hn h.1, hs h.2.1, ht h.2.2⟩
/-- The world that the mixed steps go on in. -/
structure Mix (c : Cfg) (l : List Int) (w : Int) : Prop where
  right : c.Right
  len : (l.length : Int) = c.len
  wf : WfW l
  wd : Wd w
  pend : 0 ≤ pendB w
  tally : getW l (cellIx c 1 0) = w
theorem Mix.cases {c : Cfg} {l : List Int} {w : Int} (h : Mix c l w) : (0 ≤ p4 c w ∧ 0 ≤ p6 c w ∧ p4 c w ≠ p6 c w ∧ cellIx c 1 0 ≠ p4 c w ∧ cellIx c 1 0 ≠ p6 c w ∧ p4 c w < (l.length : Int) ∧ p6 c w < (l.length : Int) ∧ cellIx c 1 0 = 0 ∧ (0 : Int) < (l.length : Int)) ∨ (p4 c w = -1 ∧ p6 c w = -1 ∧ cellIx c 1 0 = 0 ∧ (0 : Int) < (l.length : Int)) := by
  have hr := h.right
  have hr' := hr
  unfold Cfg.Right at hr'
  have hl : c.len = 2 + c.t + 4 * c.s + c.k := if_pos hr
  have i0 := ix_tally hr
  have hlen := h.len
  have hp := h.pend
  by_cases hs : pendB w < c.s
  · left
    have e4 := ix_slot hr (k := 4) (sl := pendB w) (by omega) hp hs
    have e6 := ix_slot hr (k := 6) (sl := pendB w) (by omega) hp hs
    unfold p4 p6
    rw [e4, e6, i0]
    refine ⟨?_, ?_, ?_, ?_, ?_, ?_, ?_, rfl, ?_⟩ <;> omega
  · right
    exact ⟨ix_none (by omega) hs, ix_none (by omega) hs, i0, by omega⟩
theorem tri_start {c : Cfg} {l : List Int} {w : Int} (h : Mix c l w) : tri c l w (N0 c l w) (S0 c l w) w = l := by
  unfold tri N0 S0
  rw [setW_self, setW_self]
  have := h.tally
  conv => lhs; rw [← this]
  rw [setW_self]
theorem tri_len (c : Cfg) (l : List Int) (w n s t : Int) : (tri c l w n s t).length = l.length := by
  unfold tri
  rw [setW_len, setW_len, setW_len]
theorem tri_s {c : Cfg} {l : List Int} {w : Int} (h : Mix c l w) {n s t : Int} (hs : s = S0 c l w ∨ s = S1 c l w) : getW (tri c l w n s t) (p4 c w) = s := by
  unfold tri
  rcases h.cases with ⟨h1, h2, h3, h4, h5, h6, h7, h8, h9⟩ | ⟨h1, h2, h3, h4⟩
  · rw [getW_set_ne h4, getW_set_same h1 (by rw [setW_len]; exact h6)]
  · rw [h1, getW_neg]
    have e0 : S0 c l w = 0 := by unfold S0; rw [h1, getW_neg]
    rcases hs with rfl | rfl
    · exact e0.symm
    · unfold S1
      rw [e0, stB_zero]
      rfl
theorem tri_t {c : Cfg} {l : List Int} {w : Int} (h : Mix c l w) {n s t : Int} : getW (tri c l w n s t) (cellIx c 1 0) = t := by
  have h0 : 0 ≤ cellIx c 1 0 ∧ cellIx c 1 0 < (l.length : Int) := by
    rcases h.cases with ⟨_, _, _, _, _, _, _, h8, h9⟩ | ⟨_, _, h8, h9⟩ <;> omega
  unfold tri
  exact getW_set_same h0.1 (by rw [setW_len, setW_len]; exact h0.2)
theorem num_tri {c : Cfg} {l : List Int} {w : Int} (h : Mix c l w) {n s t : Int} (hn : n = N0 c l w ∨ n = N1 c l w) : swpW (tri c l w n s t) (p6 c w) 0 (seqB w) = tri c l w (N1 c l w) s t := by
  rcases h.cases with ⟨h1, h2, h3, h4, h5, h6, h7, h8, h9⟩ | ⟨h1, h2, h3, h4⟩
  · have hg : getW (tri c l w n s t) (p6 c w) = n := by
      unfold tri
      rw [getW_set_ne h5, getW_set_ne h3, getW_set_same h2 h7]
    have hset : ∀ v, setW (tri c l w n s t) (p6 c w) v = tri c l w v s t := fun v => by
      unfold tri
      rw [setW_comm h5, setW_comm h3, setW_setW]
    by_cases hz : n = 0
    · rw [swp_hit (by rw [hg, hz]), hset]
      congr 1
      unfold N1
      rcases hn with e | e
      · rw [if_pos (by rw [← e]; exact hz)]
      · unfold N1 at e
        by_cases h0 : N0 c l w = 0
        · rw [if_pos h0]
        · rw [if_neg h0] at e
          exact absurd (e.symm.trans hz) h0
    · rw [swp_miss (by rw [hg]; exact hz)]
      congr 1
      rcases hn with e | e
      · unfold N1
        rw [if_neg (by rw [← e]; exact hz)]
        exact e
      · exact e
  · rw [h2]
    have e : ∀ a, tri c l w a s t = tri c l w n s t := fun a => by
      unfold tri
      rw [h2, setW_neg, setW_neg]
    rw [e (N1 c l w)]
    unfold swpW
    split
    · exact setW_neg
    · rfl
theorem lay_tri {c : Cfg} {l : List Int} {w : Int} (h : Mix c l w) {n s t : Int} (h3 : stB (S0 c l w) = 3) (hs : s = S0 c l w ∨ s = S1 c l w) :
    swpW (tri c l w n s t) (p4 c w) (S0 c l w) (mvB (S0 c l w) (bsB (S0 c l w))) = tri c l w n (S1 c l w) t ∧ (decide (0 ≤ p4 c w) && (getW (tri c l w n s t) (p4 c w) == S0 c l w)) = decide (s = S0 c l w) := by
  have e1 : S1 c l w = mvB (S0 c l w) (bsB (S0 c l w)) := by unfold S1; rw [if_pos h3]
  rcases h.cases with ⟨h1, h2, h3', h4, h5, h6, h7, h8, h9⟩ | ⟨h1, h2, _, h4⟩
  · have hg := tri_s h (n := n) (t := t) hs
    refine ⟨?_, ?_⟩
    · by_cases e : s = S0 c l w
      · rw [swp_hit (by rw [hg, e]), ← e1]
        unfold tri
        rw [setW_comm h4, setW_setW]
      · rw [swp_miss (by rw [hg]; exact e), hs.resolve_left e]
    · rw [hg, decide_eq_true h1, Bool.true_and]
      by_cases e : s = S0 c l w
      · rw [e, decide_eq_true rfl]; simp
      · rw [decide_eq_false e]
        exact beq_eq_false_iff_ne.2 e
  · exfalso
    have e0 : S0 c l w = 0 := by unfold S0; rw [h1, getW_neg]
    rw [e0, stB_zero] at h3
    omega
theorem set_tri {c : Cfg} {l : List Int} {w : Int} (h : Mix c l w) {n s t : Int} (ht : t = w ∨ t = setB w) : swpW (tri c l w n s t) (cellIx c 1 0) w (setB w) = tri c l w n s (setB w) := by
  have hg := tri_t h (n := n) (s := s) (t := t)
  by_cases e : t = w
  · rw [swp_hit (by rw [hg, e])]
    unfold tri
    rw [setW_setW]
  · rw [swp_miss (by rw [hg]; exact e), ht.resolve_left e]
/-- One step, of any help, keeps what is true. -/
theorem mix_step {c : Cfg} {l : List Int} {w : Int} (h : Mix c l w) {m : Mm} (hc : m.c = c) {n s t : Int} (hm : m.w = tri c l w n s t) (hG : GInv c l w n s t) {k : Hk} {x : Int} (hk : HInv c l w k x n s t) :
    ∃ n' s' t', (hStep w m k x).2.2.w = tri c l w n' s' t' ∧ GInv c l w n' s' t' ∧ HInv c l w (hStep w m k x).1 (hStep w m k x).2.1 n' s' t' ∧ (n = N1 c l w → n' = N1 c l w) ∧ (s = S1 c l w → s' = S1 c l w) ∧ (t = setB w → t' = setB w) := by
  have hw0 : Wd (S0 c l w) := h.wf.getW _
  have st1 : stB (S0 c l w) = 3 → stB (S1 c l w) ≠ 3 := fun h3 => by
    unfold S1
    rw [if_pos h3, stB_mv hw0]
    omega
  cases k with
  | num =>
    refine ⟨N1 c l w, s, t, ?_, ⟨.inr rfl, hG.s, hG.t⟩, rfl, fun _ => rfl, id, id⟩
    show swpW m.w (cellIx m.c 6 (pendB w)) 0 (seqB w) = _
    rw [hc, hm]
    exact num_tri h hG.n
  | look =>
    have hv : lookV w m = s := by
      unfold lookV
      rw [hc, hm]
      exact tri_s h hG.s
    refine ⟨n, s, t, hm, hG, ?_, id, id, id⟩
    show HInv c l w (if stB (lookV w m) = 3 then .lay else .set) (lookV w m) n s t
    rw [hv]
    by_cases h3 : stB s = 3
    · rw [if_pos h3]
      rcases hG.s with e | e
      · exact ⟨hk, e, by rw [← e]; exact h3⟩
      · by_cases h0 : stB (S0 c l w) = 3
        · exact absurd (by rw [← e]; exact h3) (st1 h0)
        · have : S1 c l w = S0 c l w := by unfold S1; rw [if_neg h0]
          rw [e, this] at h3
          exact absurd h3 h0
    · rw [if_neg h3]
      refine ⟨hk, ?_⟩
      rcases hG.s with e | e
      · unfold S1
        rw [if_neg (by rw [← e]; exact h3)]
        exact e
      · exact e
  | lay =>
    obtain ⟨q1, q2, q3⟩ := hk
    subst q2
    obtain ⟨r1, r2⟩ := lay_tri h (n := n) (t := t) q3 hG.s
    have hd : dnS m 4 (pendB w) (S0 c l w) = decide (s = S0 c l w) := by
      show (decide (0 ≤ cellIx m.c 4 (pendB w)) && (getW m.w (cellIx m.c 4 (pendB w)) == S0 c l w)) = _
      rw [hc, hm]
      exact r2
    refine ⟨n, S1 c l w, t, ?_, ⟨hG.n, .inr rfl, hG.t⟩, ?_, id, fun _ => rfl, id⟩
    · show swpW m.w (cellIx m.c 4 (pendB w)) (S0 c l w) (mvB (S0 c l w) (bsB (S0 c l w))) = _
      rw [hc, hm]
      exact r1
    · show HInv c l w (if dnS m 4 (pendB w) (S0 c l w) = true then .set else .look) (S0 c l w) n (S1 c l w) t
      split
      · exact ⟨q1, rfl⟩
      · exact q1
  | set =>
    refine ⟨n, s, setB w, ?_, ⟨hG.n, hG.s, .inr rfl⟩, ⟨hk.1, hk.2, rfl⟩, id, id, fun _ => rfl⟩
    show swpW m.w (cellIx m.c 1 0) w (setB w) = _
    rw [hc, hm]
    exact set_tri h hG.t
  | fin => exact ⟨n, s, t, hm, hG, hk, id, id, id⟩
def hMu (c : Cfg) (l : List Int) (w : Int) (k : Hk) (s : Int) : Nat :=
  match k with
  | .num => 6
  | .look => if stB s = 3 then 4 else 2
  | .lay => if s = S0 c l w then 2 else 3
  | .set => 1
  | .fin => 0
theorem hMu_look (c : Cfg) (l : List Int) (w s : Int) : hMu c l w .look s ≤ 4 := by
  unfold hMu
  show (if stB s = 3 then 4 else 2) ≤ 4
  split <;> omega
/-- Alone, a help ends; the words are then what they have to be. -/
theorem mix_run {c : Cfg} {l : List Int} {w : Int} (h : Mix c l w) : ∀ (F i : Nat) (k : Hk) (x : Int) (m : Mm) (n s t : Int), m.ok → m.c = c → m.w = tri c l w n s t → GInv c l w n s t → HInv c l w k x n s t → hMu c l w k s ≤ F →
    ∃ j x' m', hRun w F i k x m = (j, .fin, x', m') ∧ m'.ok ∧ m'.c = c ∧ m'.w = tri c l w (N1 c l w) (S1 c l w) (setB w)
  | F, i, .fin, x, m, n, s, t, hok, hc, hm, hG, hk, _ => by
    obtain ⟨q1, q2, q3⟩ := hk
    subst q1; subst q2; subst q3
    cases F with
    | zero => exact ⟨i, x, m, rfl, hok, hc, hm⟩
    | succ F => exact ⟨i, x, m, rfl, hok, hc, hm⟩
  | 0, i, .num, x, m, n, s, t, hok, hc, hm, hG, hk, hF => absurd hF (by unfold hMu; simp)
  | 0, i, .look, x, m, n, s, t, hok, hc, hm, hG, hk, hF => absurd hF (by unfold hMu; simp only; split <;> omega)
  | 0, i, .lay, x, m, n, s, t, hok, hc, hm, hG, hk, hF => absurd hF (by unfold hMu; simp only; split <;> omega)
  | 0, i, .set, x, m, n, s, t, hok, hc, hm, hG, hk, hF => absurd hF (by unfold hMu; simp)
  | F + 1, i, .num, x, m, n, s, t, hok, hc, hm, hG, hk, hF => by
    obtain ⟨n', s', t', e1, e2, e3, _, _, _⟩ := mix_step h hc hm hG hk
    obtain ⟨o1, o2⟩ := hStep_ok w hok .num x
    have hF' : 6 ≤ F + 1 := hF
    exact mix_run h F (i + 1) .look x (hNum w m) n' s' t' o1 (o2.trans hc) e1 e2 e3 (by have := hMu_look c l w s'; omega)
  | F + 1, i, .set, x, m, n, s, t, hok, hc, hm, hG, hk, hF => by
    obtain ⟨n', s', t', e1, e2, e3, _, _, _⟩ := mix_step h hc hm hG hk
    obtain ⟨o1, o2⟩ := hStep_ok w hok .set x
    exact mix_run h F (i + 1) .fin x (hSet w m) n' s' t' o1 (o2.trans hc) e1 e2 e3 (Nat.zero_le _)
  | F + 1, i, .look, x, m, n, s, t, hok, hc, hm, hG, hk, hF => by
    have hv : lookV w m = s := by
      unfold lookV
      rw [hc, hm]
      exact tri_s h hG.s
    have hk0 : n = N1 c l w := hk
    obtain ⟨n', s', t', e1, e2, e3, f1, _, _⟩ := mix_step h hc hm hG hk
    obtain ⟨o1, o2⟩ := hStep_ok w hok .look x
    have e3' : HInv c l w (if stB (lookV w m) = 3 then .lay else .set) (lookV w m) n' s' t' := e3
    by_cases h3 : stB s = 3
    · have hF' : 4 ≤ F + 1 := by
        have : hMu c l w .look s = 4 := if_pos h3
        omega
      rw [hv, if_pos h3] at e3'
      obtain ⟨j, x', m', r1, r2⟩ := mix_run h F (i + 1) .lay s (hLook w m) n' s' t' o1 (o2.trans hc) e1 e2 e3' (by show (if s' = S0 c l w then 2 else 3) ≤ F; split <;> omega)
      refine ⟨j, x', m', ?_, r2⟩
      show hRun w F (i + 1) (if stB (lookV w m) = 3 then .lay else .set) (lookV w m) (hLook w m) = _
      rw [hv, if_pos h3]
      exact r1
    · have hF' : 2 ≤ F + 1 := by
        have : hMu c l w .look s = 2 := if_neg h3
        omega
      rw [hv, if_neg h3] at e3'
      obtain ⟨j, x', m', r1, r2⟩ := mix_run h F (i + 1) .set s (hLook w m) n' s' t' o1 (o2.trans hc) e1 e2 e3' (show 1 ≤ F by omega)
      refine ⟨j, x', m', ?_, r2⟩
      show hRun w F (i + 1) (if stB (lookV w m) = 3 then .lay else .set) (lookV w m) (hLook w m) = _
      rw [hv, if_neg h3]
      exact r1
  | F + 1, i, .lay, x, m, n, s, t, hok, hc, hm, hG, hk, hF => by
    obtain ⟨q1, q2, q3⟩ := id hk
    obtain ⟨n', s', t', e1, e2, e3, f1, f2, _⟩ := mix_step h hc hm hG hk
    obtain ⟨o1, o2⟩ := hStep_ok w hok .lay x
    have e3' : HInv c l w (if dnS m 4 (pendB w) x = true then .set else .look) x n' s' t' := e3
    have hd : dnS m 4 (pendB w) x = decide (s = S0 c l w) := by
      show (decide (0 ≤ cellIx m.c 4 (pendB w)) && (getW m.w (cellIx m.c 4 (pendB w)) == x)) = _
      rw [hc, hm, q2]
      exact (lay_tri h (n := n) (t := t) q3 hG.s).2
    by_cases hs : s = S0 c l w
    · have hF' : 2 ≤ F + 1 := by
        have : hMu c l w .lay s = 2 := if_pos hs
        omega
      rw [hd, if_pos (decide_eq_true hs)] at e3'
      obtain ⟨j, x', m', r1, r2⟩ := mix_run h F (i + 1) .set x (hLay w x m) n' s' t' o1 (o2.trans hc) e1 e2 e3' (show 1 ≤ F by omega)
      refine ⟨j, x', m', ?_, r2⟩
      show hRun w F (i + 1) (if dnS m 4 (pendB w) x = true then .set else .look) x (hLay w x m) = _
      rw [hd, if_pos (decide_eq_true hs)]
      exact r1
    · have hF' : 3 ≤ F + 1 := by
        have : hMu c l w .lay s = 3 := if_neg hs
        omega
      have hs1 : s' = S1 c l w := f2 (hG.s.resolve_left hs)
      have hne : ¬ decide (s = S0 c l w) = true := by simpa using hs
      have h4 : ¬ stB s' = 3 := by
        rw [hs1]
        unfold S1
        rw [if_pos q3, stB_mv (show Wd (S0 c l w) from h.wf.getW _)]
        omega
      rw [hd, if_neg hne] at e3'
      obtain ⟨j, x', m', r1, r2⟩ := mix_run h F (i + 1) .look x (hLay w x m) n' s' t' o1 (o2.trans hc) e1 e2 e3' (by
        have : hMu c l w .look s' = 2 := if_neg h4
        omega)
      refine ⟨j, x', m', ?_, r2⟩
      show hRun w F (i + 1) (if dnS m 4 (pendB w) x = true then .set else .look) x (hLay w x m) = _
      rw [hd, if_neg hne]
      exact r1
end Go.Proofs.Ytcpkieahnkfpoaa.Ct
