/- What 'OpenFull' comes to, of any input: it returns true and changes nothing that was there. -/
import Derived.Test.YtjkohcdgjlaobaaLwOpenFullV
namespace Go.Proofs.Ytjkohcdgjlaobaa.OpenFullDone
open Go Go.Proofs Go.Proofs.Ytjkohcdgjlaobaa.Ev Go.Proofs.Ytjkohcdgjlaobaa.Ct
open Go.RowKit

theorem z0' {tl : List Nat} : ∀ k, k < 0 → tl.getD k 0 = k := fun k hk => absurd hk (Nat.not_lt_zero k)
theorem ixs_none {c : Cfg} {k sl : Int} (hk : k = 4 ∨ k = 5 ∨ k = 6 ∨ k = 7) (h1 : ¬ sl < c.s) : cellIx c k sl = -1 := by
  have a : ¬ (k = 1 ∨ k = 2) := by omega
  have b : ¬ k = 3 := by omega
  unfold cellIx
  by_cases hh : c.Right ∧ 0 ≤ sl
  · simp only [if_pos hh, if_neg a, if_neg b, if_pos hk, if_neg h1]
  · simp only [if_neg hh]
structure Inv (c : Cfg) (i : Nat) (m : Mm) : Prop where
  ok : m.ok
  cc : m.c = c
  wf : WfW m.w
  zero : getW m.w 0 = 0
  got : ∀ j : Int, 0 ≤ j → j < i → freeI (sWd c m.w j) c.g = false
  left : ∀ j : Int, (i : Int) ≤ j → sWd c m.w j = 0
theorem inv0 {c : Cfg} (hr : c.Right) : Inv c 0 (nwM c) := ⟨nwM_ok hr, rfl, zW_wf c, getW_zero c 0, fun j h0 h1 => by omega, fun j _ => getW_zero c _⟩
theorem free0 {c : Cfg} (hr : c.Right) : freeI 0 c.g = true := by
  unfold Cfg.Right at hr
  have e1 : nuI 0 27 3 = 0 := rfl
  have e2 : nuI 0 30 32 = 0 := rfl
  unfold freeI
  rw [e1, e2, decide_eq_false (by omega)]
  rfl
theorem step1 {c : Cfg} (hr : c.Right) {i : Nat} (hi : (i : Int) < c.s) {m : Mm} (h : Inv c i m) :
    opGood (RR m).2.1 (RR m).2.2 ∧ Inv c (i + 1) (RR m).2.2 ∧ (RR m).2.1.e = 0 ∧ (RR m).2.1.h = mkT i 0 ∧ (RR m).2.1.n = 0 := by
  have hG := opRun_good 100 0 op0 m ⟨h.ok, h.wf, op0_good⟩
  refine ⟨hG, ?_⟩
  have hi0 : sWd c m.w i = 0 := h.left i (Int.le_refl _)
  rcases alone hr (N := 100) h.cc (by rw [h.zero]; decide) (by omega) with ⟨hno, _⟩ | ⟨f, f0, f1, hf, hlow, m', q, q2, q3⟩
  · have := hno i (by omega) hi
    rw [hi0, free0 hr] at this
    cases this
  · have hfi : f = (i : Int) := by
      by_cases h1 : f < i
      · rw [h.got f f0 h1] at hf
        cases hf
      · by_cases h2 : (i : Int) < f
        · have := hlow i (by omega) h2
          rw [hi0, free0 hr] at this
          cases this
        · omega
    subst hfi
    have hl : (m.w.length : Int) = c.len := by rw [h.ok.2, h.cc]
    have i4 := ixs_rng hr (k := 4) (n := (i : Int)) (.inl rfl) f0 f1
    have i5 := ixs_rng hr (k := 5) (n := (i : Int)) (.inr (.inl rfl)) f0 f1
    have x4 := ixs hr (k := 4) (n := (i : Int)) (.inl rfl) f0 f1
    have x5 := ixs hr (k := 5) (n := (i : Int)) (.inr (.inl rfl)) f0 f1
    rw [h.zero, hi0] at q
    have e0 : seqB 0 = 0 := rfl
    have e1 : nuI 0 30 32 = 0 := rfl
    rw [e0, e1] at q
    rw [q] at hG
    show Inv c (i + 1) (opRun 100 0 op0 m).2.2 ∧ (opRun 100 0 op0 m).2.1.e = 0 ∧ (opRun 100 0 op0 m).2.1.h = mkT i 0 ∧ (opRun 100 0 op0 m).2.1.n = 0
    rw [q]
    have ew : m'.w = gotW c m.w (i : Int) := q2
    refine ⟨⟨hG.1, q3, hG.2.1, ?_, fun j j0 j1 => ?_, fun j j0 => ?_⟩, rfl, rfl, rfl⟩
    · show getW m'.w 0 = 0
      rw [ew]
      unfold gotW
      rw [getW_set_ne (by omega), getW_set_ne (by omega), getW_set_ne (by omega)]
      exact h.zero
    · show freeI (sWd c m'.w j) c.g = false
      rw [ew]
      unfold gotW sWd
      by_cases e : j = (i : Int)
      · subst e
        rw [getW_set_same (by omega) (by rw [setW_len, setW_len]; omega), show getW m.w (cellIx c 4 (i : Int)) = 0 from hi0]
        rfl
      · have y4 := ixs hr (k := 4) (n := j) (.inl rfl) j0 (by omega)
        rw [getW_set_ne (by omega), getW_set_ne (by omega), getW_set_ne (by omega)]
        exact h.got j j0 (by omega)
    · show getW m'.w (cellIx c 4 j) = 0
      rw [ew]
      unfold gotW
      by_cases js : j < c.s
      · have y4 := ixs hr (k := 4) (n := j) (.inl rfl) (by omega) js
        rw [getW_set_ne (by omega), getW_set_ne (by omega), getW_set_ne (by omega)]
        exact h.left j (by omega)
      · rw [ixs_none (.inl rfl) js]
        exact getW_out (by omega)
open Dec in
theorem main (c : Cfg) (hr : c.Right) : CallC Try.prog fid [c.v] ⟨[], 0, []⟩ (.bool true) ⟨[], 0, []⟩ := by
  have hs := sl_rng hr
  refine CallC.of_body (E := E50n) (ds := []) (fn := fn) 85 (by kernel_rfl) (by kernel_rfl) (by kernel_rfl) (by kernel_rfl) ?_
  refine KC.of_exec (fr := start c [Dec.l, Dec.l]) E50nok (p_in c) (pcs_of ⟨hr, trivial⟩) (Nat.le_refl _) z0' ?_
  refine KC.loop (m0 := 0) (ι := Nat × Mm) (fun x => fr c x.2 (x.1 : Int) []) (fun x => (x.1 : Int) ≤ c.s ∧ Inv c x.1 x.2) (fun x => c.s.toNat - x.1)
    (fun ex fr => ex = .exit 0 ∧ ∃ m, Inv c c.s.toNat m ∧ fr = frX c m []) (fun x hx => ?_) ?_ (0, nwM c) ⟨by simp only; omega, inv0 hr⟩
  · obtain ⟨i, m⟩ := x
    obtain ⟨hi, hI⟩ := hx
    simp only at hi hI ⊢
    by_cases hlt : (i : Int) < c.s
    · obtain ⟨g1, g2, a1, a2, a3⟩ := step1 hr hlt hI
      refine CodeC.of_run (fr := fr c m (i : Int) [t, Dec.l, f]) E50nok (p_go c m i) (pcs_of ⟨decide_eq_true hlt, rfl, rfl, ⟨rfl, by decide, rfl, hI.ok, hI.wf, op0_good⟩, rfl, ⟨rfl, rfl, g1.2.2⟩, ?_, trivial⟩) (Nat.zero_le _) z0' (.inl ⟨rfl, (i + 1, (RR m).2.2), by rw [w64_succ i (by omega)], ⟨by simp only; omega, g2⟩, by simp only; omega⟩)
      rw [a1, a2, a3]
      simp [andL]
    · have e : i = c.s.toNat := by omega
      subst e
      exact CodeC.of_run (fr := fr c m _ [f]) E50nok (p_end c m c.s.toNat) (pcs_of ⟨decide_eq_false hlt, trivial⟩) (Nat.zero_le _) z0' (.inr ⟨by simp, rfl, m, hI, rfl⟩)
  rintro ex fr ⟨rfl, m, hI, rfl⟩
  have hG : opGood op0 m := ⟨hI.ok, hI.wf, op0_good⟩
  have hR := opRun_good 100 0 _ _ hG
  obtain ⟨s', m', q, qw, qc⟩ : ∃ s' m', RR m = (c.s.toNat, ⟨6, 0, c.s, s', 0, 0, 0, 6, 0, 0⟩, m') ∧ m'.w = m.w ∧ m'.c = c := by
    rcases alone hr (N := 100) hI.cc (by rw [hI.zero]; decide) (by omega) with ⟨_, s', m', q, q2, q3⟩ | ⟨f', f0, f1, hf, _⟩
    · exact ⟨s', m', q, q2, q3⟩
    · rw [hI.got f' f0 (by omega)] at hf
      cases hf
  have hpm := p_mid c m
  rw [show opRun 100 0 op0 m = _ from q] at hR
  have hlen : (m.w.length : Int) = c.len := by rw [hI.ok.2, hI.cc]
  have hN : m.N = m.w.length := hI.ok.1
  have hN' : m'.N = m.w.length := by have := hR.1.1; rw [← qw]; exact this
  have hL : c.len ≤ 70 := by
    have : c.len = 2 + c.t + 4 * c.s + c.k := if_pos hr
    unfold Cfg.Right at hr
    omega
  refine KC.of_exec (fr := frX c m [Dec.l]) E50nok hpm (pcs_of ⟨rfl, hI.ok, rfl, ⟨rfl, by decide, rfl, hG⟩, by rw [q]; exact hR.1, trivial⟩) (Nat.zero_le _) z0' ?_
  rw [q]
  show KC E50n 0 .normal (.code (.loop (bd fn lp2)) :: K2) (fr2 c ⟨6, 0, c.s, s', 0, 0, 0, 6, 0, 0⟩ (c.s.toNat : Int) m.N m'.N m.w m'.w 0 []) _
  rw [qw, hN, hN', show ((c.s.toNat : Nat) : Int) = c.s by omega]
  refine KC.loop (m0 := 0) (ι := Nat) (fun i => fr2 c ⟨6, 0, c.s, s', 0, 0, 0, 6, 0, 0⟩ c.s m.w.length m.w.length m.w m.w (i : Int) []) (fun i => i ≤ m.w.length) (fun i => m.w.length - i)
    (fun ex fr => ex = .exit 2 ∧ fr = frY c ⟨6, 0, c.s, s', 0, 0, 0, 6, 0, 0⟩ c.s []) (fun i hi => ?_) ?_ 0 (Nat.zero_le _)
  · by_cases hlt : (i : Int) < (m.w.length : Int)
    · have hj : addN 0 (mulN i 1) < m.w.length := by rw [addN_eq, mulN_eq]; omega
      exact CodeC.of_run (fr := fr2 c ⟨6, 0, c.s, s', 0, 0, 0, 6, 0, 0⟩ c.s m.w.length m.w.length m.w m.w (i : Int) [t, f]) E50nok (p_go2 c i ⟨6, 0, c.s, s', 0, 0, 0, 6, 0, 0⟩ c.s m.w.length m.w.length m.w m.w) (pcs_of ⟨decide_eq_true hlt, by omega, hlt, hj, by omega, hlt, hj, by simp, trivial⟩) (Nat.zero_le _) z0' (.inl ⟨rfl, i + 1, by rw [w64_succ i (by omega)], by omega, by omega⟩)
    · exact CodeC.of_run (fr := fr2 c ⟨6, 0, c.s, s', 0, 0, 0, 6, 0, 0⟩ c.s m.w.length m.w.length m.w m.w (i : Int) [f]) E50nok (p_end2 c i ⟨6, 0, c.s, s', 0, 0, 0, 6, 0, 0⟩ c.s m.w.length m.w.length m.w m.w) (pcs_of ⟨decide_eq_false hlt, trivial⟩) (Nat.zero_le _) z0' (.inr ⟨by simp, rfl, rfl⟩)
  rintro ex fr ⟨rfl, rfl⟩
  refine KC.of_exec (fr := frY c ⟨6, 0, c.s, s', 0, 0, 0, 6, 0, 0⟩ c.s [Dec.l, t]) E50nok (p_out c ⟨6, 0, c.s, s', 0, 0, 0, 6, 0, 0⟩ c.s) (pcs_of ⟨by simp, rfl, ⟨rfl, rfl, hR.2.2⟩, trivial⟩) (Nat.zero_le _) z0' ?_
  exact KC.done ⟨by simp, [.bool true], [], [], 0, by kernel_rfl, by simp, by kernel_rfl, rfl, z0'⟩
theorem walk (c : Cfg) (w : World) : Calls Try.prog fid #[c.v] w fun e w1 => e = .returned (.bool true) ∧ Below w.heap.size w w1 := by
  by_cases hr : c.Right
  · exact calls_of_C (main c hr) rfl none_isV (ρ := id) (fun ρ' _ => by simp [Cfg.ren_v]) (HR_none _ 0)
  · have hz : c.len = 0 := if_neg hr
    exact true_nums E50ok (p_nr c) (pcs_of ⟨by omega, by omega, by omega, by rw [hz]; rfl, trivial⟩) (fun ρ => by simp [Cfg.ren_v])
end Go.Proofs.Ytjkohcdgjlaobaa.OpenFullDone
