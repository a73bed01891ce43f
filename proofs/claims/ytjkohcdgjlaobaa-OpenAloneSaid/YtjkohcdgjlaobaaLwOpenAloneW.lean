/- What 'OpenAlone' comes to, of any input: it returns true and changes nothing that was there. -/
import Derived.Test.YtjkohcdgjlaobaaLwOpenAloneV
import Derived.Test.YtjkohcdgjlaobaaCtOpenQ
namespace Go.Proofs.Ytjkohcdgjlaobaa.OpenAloneDone
open Go Go.Proofs Go.Proofs.Ytjkohcdgjlaobaa.Ev Go.Proofs.Ytjkohcdgjlaobaa.Ct
open Go.RowKit

theorem z1 {tl : List Nat} : ∀ k, k < 1 → (0 :: tl).getD k 0 = k := fun k hk => by
  match k, hk with
  | 0, _ => rfl
abbrev Fr4 (c : Cfg) (l : List Int) (j : Int) : Bool := freeI (sWd c l j) c.g
/-- The lowest free one from here on, or none. -/
def Low (c : Cfg) (l : List Int) (d free : Int) : Prop := (free = -1 ∧ ∀ j, d ≤ j → j < c.s → Fr4 c l j = false) ∨ (d ≤ free ∧ free < c.s ∧ Fr4 c l free = true ∧ ∀ j, d ≤ j → j < free → Fr4 c l j = false)
theorem at4_eq {c : Cfg} {l : List Int} {off : Nat} {i : Int} (h : 0 ≤ cellIx c 4 i) : at4 c l off i = sWd c l i := by
  unfold at4 sWd
  rw [jI_eq, getW_in h]
theorem low_yes {c : Cfg} {l : List Int} {d : Int} (hlt : d < c.s) (hf : Fr4 c l d = true) : Low c l d d := .inr ⟨Int.le_refl _, hlt, hf, fun j _ _ => by omega⟩
theorem low_no {c : Cfg} {l : List Int} {d free : Int} (h : Low c l (d + 1) free) (hf : Fr4 c l d = false) : Low c l d free := by
  have step : ∀ j, d ≤ j → (d + 1 ≤ j → Fr4 c l j = false) → Fr4 c l j = false := fun j h0 h1 => by
    by_cases e : j = d
    · rw [e]; exact hf
    · exact h1 (by omega)
  rcases h with ⟨h1, h2⟩ | ⟨h1, h2, h3, h4⟩
  · exact .inl ⟨h1, fun j h0 h1 => step j h0 fun x => h2 j x h1⟩
  · exact .inr ⟨by omega, h2, h3, fun j h0 h1 => step j h0 fun x => h4 j x h1⟩
open Dec in
theorem main (c : Cfg) (l : List Int) (off cap : Nat) (hr : c.Right) (hlen : (l.length : Int) = c.len) (hwf : WfW l) : CallC Try.prog fid (A c l off cap) (hp0 l off) (.bool true) (hp0 l off) := by
  have hs := sl_rng hr
  have hq : ∀ p ∈ q0 c l off, p := pcs_of ⟨⟨hr, hlen, rfl, rfl⟩, trivial⟩
  have hix : ∀ i, 0 ≤ i → i < c.s → ∀ p ∈ ix c l off i, p := fun i i0 i1 => by
    have i4 := ixs_rng hr (k := 4) (n := i) (.inl rfl) i0 i1
    exact pcs_of ⟨by omega, by omega, by rw [addN_eq]; omega, by rw [jI_eq]; omega, by rw [at4_eq (by omega)]; exact hwf.getW _, trivial⟩
  refine CallC.of_body (E := E50o) (ds := []) (fn := fn) 126 (by kernel_rfl) (by kernel_rfl) (by kernel_rfl) (by kernel_rfl) ?_
  refine KC.of_exec (fr := start c l off cap [Dec.l, Dec.l]) E50ook (p_in c l off cap) (pcs_app hq (pcs_of ⟨rfl, trivial⟩)) (Nat.le_refl _) z1 ?_
  have hw0 : w64 (c.s - 1) = ((c.s.toNat : Nat) : Int) - 1 := by rw [w64_in (by omega) (by omega)]; omega
  rw [hw0]
  refine KC.loop (m0 := 1) (ι := Nat × Int) (fun x => fr c l off cap x.2 ((x.1 : Int) - 1) []) (fun x => (x.1 : Int) ≤ c.s ∧ Low c l (x.1 : Int) x.2) (fun x => x.1)
    (fun ex fr => ex = .exit 0 ∧ ∃ free, Low c l 0 free ∧ fr = frX c l off cap free []) (fun x hx => ?_) ?_ (c.s.toNat, -1) ⟨by simp only; omega, .inl ⟨rfl, fun j h0 h1 => by simp only at h0; omega⟩⟩
  · obtain ⟨d, free⟩ := x
    obtain ⟨hd, hL⟩ := hx
    simp only at hd hL ⊢
    cases d with
    | zero => exact CodeC.of_run (fr := fr c l off cap free _ [f]) E50ook (p_end c l off cap free _) (pcs_of ⟨decide_eq_false (by omega), trivial⟩) (show 1 ≤ 7 by omega) z1 (.inr ⟨by simp, rfl, free, hL, rfl⟩)
    | succ d =>
      have i0 : (0 : Int) ≤ (d : Int) := by omega
      have i1 : (d : Int) < c.s := by omega
      have hi4 := ixs_rng hr (k := 4) (n := (d : Int)) (.inl rfl) i0 i1
      have ei : (((d + 1 : Nat) : Int) - 1) = (d : Int) := by omega
      have ew : w64 ((d : Int) - 1) = (d : Int) - 1 := w64_in (by omega) (by omega)
      have ea := at4_eq (c := c) (l := l) (off := off) (i := (d : Int)) (by omega)
      have hX := hix (d : Int) i0 i1
      have hL' : Low c l ((d : Int) + 1) free := hL
      have eF : Fr4 c l (d : Int) = (nuI (at4 c l off (d : Int)) 27 3 == 0 && !decide (nuI (at4 c l off (d : Int)) 30 32 > c.g)) := by rw [ea]; rfl
      have wd : Wd (at4 c l off (d : Int)) := by rw [ea]; exact hwf.getW _
      rw [ei]
      cases hst : (nuI (at4 c l off (d : Int)) 27 3 == 0) with
      | false =>
        rw [hst] at eF
        exact CodeC.of_run (fr := fr c l off cap free (d : Int) [t, f, Dec.l]) E50ook (p_f c l off cap free (d : Int)) (pcs_app (pcs_of ⟨decide_eq_true (by omega), trivial⟩) (pcs_app hX (pcs_of ⟨hst, trivial⟩))) (show 1 ≤ 7 by omega) z1
          (.inl ⟨rfl, (d, free), by rw [ew], ⟨by simp only; omega, low_no hL' eF⟩, by simp only; omega⟩)
      | true =>
        rw [hst] at eF
        by_cases hg : nuI (at4 c l off (d : Int)) 30 32 ≤ c.g
        · rw [decide_eq_false (by omega)] at eF
          exact CodeC.of_run (fr := fr c l off cap free (d : Int) [t, t, t]) E50ook (p_tt c l off cap free (d : Int)) (pcs_app (pcs_of ⟨decide_eq_true (by omega), trivial⟩) (pcs_app hX (pcs_of ⟨hst, wd, decide_eq_true hg, trivial⟩))) (show 1 ≤ 7 by omega) z1
            (.inl ⟨rfl, (d, (d : Int)), by rw [ew], ⟨by simp only; omega, low_yes i1 eF⟩, by simp only; omega⟩)
        · rw [decide_eq_true (by omega)] at eF
          exact CodeC.of_run (fr := fr c l off cap free (d : Int) [t, t, f]) E50ook (p_tf c l off cap free (d : Int)) (pcs_app (pcs_of ⟨decide_eq_true (by omega), trivial⟩) (pcs_app hX (pcs_of ⟨hst, wd, decide_eq_false hg, trivial⟩))) (show 1 ≤ 7 by omega) z1
            (.inl ⟨rfl, (d, free), by rw [ew], ⟨by simp only; omega, low_no hL' eF⟩, by simp only; omega⟩)
  rintro ex fr ⟨rfl, free, hL, rfl⟩
  have hG : opGood op0 (newM c l) := ⟨newM_ok hlen, hwf, op0_good⟩
  have hR := opRun_good 100 0 _ _ hG
  have out : ∀ b, b = true → KC E50o 1 .ret [] (frE l off b) (Ev.Ends E50o fn 1 (.bool true) (hp0 l off)) := fun b hb => by
    subst hb
    exact KC.done ⟨by simp, [.bool true], [], [0], 1, by kernel_rfl, by simp, by kernel_rfl, rfl, z1⟩
  rcases aloneAny hr (m := newM c l) rfl hlen (hwf.getW 0) (N := 100) (by omega) with ⟨hno, s', m', q, _⟩ | ⟨f', f0, f1, hf, hlow, k', ap', aw', av', m', W1, q, mc, hn, ht, mw⟩
  · have hfr : free = -1 := by
      rcases hL with ⟨x, _⟩ | ⟨x, y, z, _⟩
      · exact x
      · have : Fr4 c l free = false := hno free x y
        rw [this] at z
        cases z
    have hd : (RR c l).2.1.dn = true := by show (opRun 100 0 op0 (newM c l)).2.1.dn = true; rw [q]; rfl
    refine KC.of_exec (fr := frX c l off cap free [t, Dec.l, t]) E50ook (p_no c l off cap free) (pcs_of ⟨rfl, ⟨rfl, by decide, rfl, hG⟩, decide_eq_true (by omega), rfl, ⟨rfl, rfl, hR.2.2⟩, hd, rfl, ⟨rfl, rfl, hR.2.2⟩, trivial⟩) (show 1 ≤ 7 by omega) z1 (out _ ?_)
    show andL [(opRun 100 0 op0 (newM c l)).2.1.e == 6, (opRun 100 0 op0 (newM c l)).2.1.h == 0, (opRun 100 0 op0 (newM c l)).2.1.n == 0] = true
    rw [q]
    rfl
  · have hfr : free = f' := by
      rcases hL with ⟨_, x⟩ | ⟨x, y, z, u⟩
      · have : Fr4 c l f' = false := x f' f0 f1
        have h2 : Fr4 c l f' = true := hf
        rw [this] at h2
        cases h2
      · by_cases a : free < f'
        · have : Fr4 c l free = false := hlow free x a
          rw [this] at z
          cases z
        · by_cases b : f' < free
          · have h1 : Fr4 c l f' = false := u f' f0 b
            have h2 : Fr4 c l f' = true := hf
            rw [h1] at h2
            cases h2
          · omega
    subst hfr
    have i4 := ixs_rng hr (k := 4) (n := free) (.inl rfl) f0 f1
    have i5 := ixs_rng hr (k := 5) (n := free) (.inr (.inl rfl)) f0 f1
    have x4 := ixs hr (k := 4) (n := free) (.inl rfl) f0 f1
    have x5 := ixs hr (k := 5) (n := free) (.inr (.inl rfl)) f0 f1
    have wl : (W1.length : Int) = c.len := by rw [hn.1, setW_len]; exact hlen
    obtain ⟨l0, l1⟩ : Wd (getW l 0) := hwf.getW 0
    have eq0 : q0w l off = getW l 0 / 16 := by
      have e0 : l.getD (addN off (mulN 0 1) - off) 0 = getW l 0 := by
        rw [getW_in (Int.le_refl _), addN_eq, mulN_eq]
        congr 1
        omega
      unfold q0w
      rw [e0, tdiv_nn l0, w_u64 (by omega) (by omega)]
    have hd : (RR c l).2.1.dn = true := by show (opRun 100 0 op0 (newM c l)).2.1.dn = true; rw [q]; rfl
    have hA : andL [(RR c l).2.1.e == 0, (RR c l).2.1.h == mkT free (nuI (at4 c l off free) 30 32), (RR c l).2.1.n == q0w l off] = true := by
      rw [eq0, at4_eq (by omega)]
      show andL [(opRun 100 0 op0 (newM c l)).2.1.e == 0, (opRun 100 0 op0 (newM c l)).2.1.h == mkT free (nuI (sWd c l free) 30 32), (opRun 100 0 op0 (newM c l)).2.1.n == getW l 0 / 16] = true
      rw [q]
      show (((0 : Int) == 0) && ((mkT free (nuI (sWd c l free) 30 32) == mkT free (nuI (sWd c l free) 30 32)) && (getW l 0 / 16 == getW l 0 / 16))) = true
      simp
    have mw' : m'.w = setW (setW W1 (cellIx c 5 free) (getW l 0 / 16)) (cellIx c 4 free) (mvI (sWd c l free) 2 false) := mw
    have eW : ∀ k n, W c l k n = getW m'.w (cellIx c k n) := fun k n => by
      show getW (opRun 100 0 op0 (newM c l)).2.2.w (cellIx (opRun 100 0 op0 (newM c l)).2.2.c k n) = _
      rw [q]
      show getW m'.w (cellIx m'.c k n) = _
      rw [mc]
    have w5 : W c l 5 free = getW l 0 / 16 := by
      rw [eW, mw', getW_set_ne (by omega), getW_set_same (by omega) (by omega)]
    have w4 : W c l 4 free = mvI (sWd c l free) 2 false := by
      rw [eW, mw', getW_set_same (by omega) (by rw [setW_len]; omega)]
    have wt : W c l 1 0 % 16 = 0 := by
      rw [eW, ix_tally hr, mw', getW_set_ne (by omega), getW_set_ne (by omega)]
      exact ht
    have wf : ∀ k n, Wd (W c l k n) := fun k n => hR.2.1.getW _
    refine KC.of_exec (fr := frX c l off cap free [f, Dec.l, t, t, t, t]) E50ook (p_yes c l off cap free) (pcs_app (pcs_of ⟨rfl, ⟨rfl, by decide, rfl, hG⟩, decide_eq_false (by omega), trivial⟩) (pcs_app (hix free f0 f1) (pcs_of ⟨Int.le_refl _, by omega, by rw [addN_eq]; omega, by rw [addN_eq, mulN_eq]; omega, by decide, rfl, ⟨rfl, rfl, hR.2.2⟩, hd, rfl, ⟨rfl, rfl, hR.2.2⟩, hA, hR.1, by rw [w5, eq0, beq_self_eq_true], hR.1, wf 4 free, ?_, hR.1, by decide, trivial⟩))) (show 1 ≤ 7 by omega) z1 (out _ ?_)
    · rw [w4, nu27]
      have hv : Wd (sWd c l free) := hwf.getW _
      obtain ⟨v0, v1⟩ := hv
      unfold mvI
      simp only [Bool.false_eq_true, if_false]
      rw [beq_iff_eq]
      omega
    · rw [Int.tmod_eq_emod_of_nonneg (wf 1 0).1, wt]
      rfl
theorem walk (c : Cfg) (v : Value) (l : List Int) (w : World) (hl : RowIn .u64 w v l) :
    Calls Try.prog fid #[c.v, v] w fun e w1 => e = .returned (.bool true) ∧ Below w.heap.size w w1 :=
  law_cells (E' := E50o) (n := 20) E50ok rfl (x := []) hl (fun ρ => rfl) (fun hr hlen off cap => ⟨_, main c l off cap hr hlen (row_wf hl)⟩)
    (fun hr a m cap => ⟨_, _, p_nr c cap a m, pcs_of ⟨by simp [rightB, hr], rfl, trivial⟩⟩)
    (fun hr a m cap hlen => ⟨_, _, p_nl c cap a m, pcs_of ⟨by simp [rightB, hr], hr, by simpa using hlen, rfl, trivial⟩⟩)
end Go.Proofs.Ytjkohcdgjlaobaa.OpenAloneDone
