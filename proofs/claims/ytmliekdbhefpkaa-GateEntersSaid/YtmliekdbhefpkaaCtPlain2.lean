/- Plain laws of a join that is laid again. -/
import Derived.Test.YtmliekdbhefpkaaCtPlain
namespace Go.Proofs.Ytmliekdbhefpkaa.Ct
open Go Go.Proofs Go.Proofs.Ytmliekdbhefpkaa.Ev
open Go.RowKit

theorem bitI_put_true (w n : Int) : bitI (putI w n true) n = true := by
  unfold putI
  by_cases h : bitI w n = true
  · rw [if_pos h, h]
  · rw [if_neg h, if_pos rfl]
    have hp := pw_pos n
    have e : (w + pw n) / pw n = w / pw n + 1 := by
      have := Int.add_mul_ediv_right w 1 (show pw n ≠ 0 by omega)
      rw [Int.one_mul] at this
      exact this
    unfold bitI at h ⊢
    rw [e]
    rw [beq_iff_eq] at h ⊢
    omega
theorem hasI_with {w sd by' : Int} (h0 : 0 ≤ sd) (h1 : sd ≤ 1) (h2 : 0 ≤ by') (h3 : by' ≤ 11) : hasI (withI w sd by') sd by' = true := by
  have ha : atI sd by' = 12 * sd + by' := by unfold atI; rw [if_neg (by omega)]
  unfold hasI withI
  rw [if_neg (by omega), bitI_put_true, Bool.and_true, decide_eq_true_eq]
  omega
theorem nuI_with {w : Int} (h0 : 0 ≤ w) (sd by' : Int) : nuI (withI w sd by') 27 3 = nuI w 27 3 := by
  have h := withI_hi h0 sd by'
  have e : ∀ x : Int, nuI x 27 3 = x / 16777216 / 8 % 8 := fun x => by
    show x / 134217728 % 8 = _
    omega
  rw [e, e, h]
/-- As 'ja_run', of any memory. -/
theorem ja_run_m {m : Mm} {sl sd by' sn : Int} (hr : m.c.Right) (h0 : 0 ≤ sl) (h1 : sl < m.c.s) {R : Nat × Jn × Mm} (hR : jrRun 20 0 ⟨sl, sd, by', 0, lookF, sn, 0⟩ m = R) :
    R.2.1.r = wantI (getW m.w (cellIx m.c 4 sl)) (getW m.w (cellIx m.c 6 sl)) sd by' sn ∧ R.1 ≤ 3 ∧ (R.2.1.r ≠ 2 ∨ hasI (getW m.w (cellIx m.c 4 sl)) sd by' = true → R.1 ≤ 2) ∧ R.2.2.N = m.N ∧ R.2.2.c = m.c ∧ R.2.2.w = (if R.2.1.r = 2 then setW m.w (cellIx m.c 4 sl) (withI (getW m.w (cellIx m.c 4 sl)) sd by') else m.w) := by
  have i4 := ix_slot_rng hr (k := 4) (.inl rfl) h0 h1
  have key : ∀ (s : Int) (f : FuncId) (m' : Mm) (n i : Nat), m'.c = m.c → m'.w = m.w → m'.N = m.N → getW m.w (cellIx m.c 4 sl) = s →
      let Q := jrRun (n + 2) i (Jn.go ⟨sl, sd, by', s, f, sn, 0⟩) m'
      Q.2.1.r = (bif hasI s sd by' then 2 else bif nuI s 27 3 != 2 && anyI s (w64 (1 - sd)) then 3 else 2) ∧ Q.1 ≤ i + 1 ∧ (Q.2.1.r ≠ 2 ∨ hasI s sd by' = true → Q.1 ≤ i) ∧ Q.2.2.N = m.N ∧ Q.2.2.c = m.c ∧ Q.2.2.w = (if Q.2.1.r = 2 then setW m.w (cellIx m.c 4 sl) (withI s sd by') else m.w) := by
    intro s f m' n i ec ew eN hs Q
    have hQ : Q = jrRun (n + 2) i (Jn.go ⟨sl, sd, by', s, f, sn, 0⟩) m' := rfl
    rw [go_eq, jdg_eq] at hQ
    by_cases hh : hasI s sd by' = true
    · rw [if_pos hh, if_neg (by decide), jr_stop (by simp)] at hQ
      rw [hQ, hh]
      refine ⟨rfl, Nat.le_succ i, fun _ => Nat.le_refl _, eN, ec, ?_⟩
      rw [if_pos rfl, withI_has hh, ← hs, setW_same]
      exact ew
    · have hh' := eq_false_of_ne_true hh
      rw [if_neg hh] at hQ
      by_cases ha : nuI s 27 3 ≠ 2 ∧ anyI s (w64 (1 - sd)) = true
      · rw [if_pos ha, if_neg (by decide), jr_stop (by simp)] at hQ
        rw [hQ, hh', bne_iff_ne.2 ha.1, ha.2]
        exact ⟨rfl, Nat.le_succ i, fun _ => Nat.le_refl _, eN, ec, ew.trans (if_neg (by simp)).symm⟩
      · have hs' : getW m'.w (cellIx m'.c 4 sl) = s := by rw [ec, ew]; exact hs
        rw [if_neg ha, if_pos rfl, jr_more rfl, jSt_lay, jMe_lay, dnS_hit (by rw [ec]; exact i4.1) hs', if_pos rfl, jr_stop (by simp)] at hQ
        have hb : (nuI s 27 3 != 2 && anyI s (w64 (1 - sd))) = false := by
          cases hx : (nuI s 27 3 != 2 && anyI s (w64 (1 - sd)))
          · rfl
          · rw [Bool.and_eq_true, bne_iff_ne] at hx
            exact absurd hx ha
        rw [hQ, hh', hb]
        refine ⟨rfl, Nat.le_refl _, fun h => ?_, eN, ec, ?_⟩
        · rcases h with h | h
          · exact absurd rfl h
          · cases h
        · have := swpW_hit (v := withI s sd by') hs'
          rw [ec, ew] at this
          show swpW m'.w (cellIx m'.c 4 sl) s (withI s sd by') = _
          rw [ec, ew, this]
          exact (if_pos rfl).symm
  rw [jr_more rfl, jSt_look, jMe_look] at hR
  unfold wantI
  generalize hs : getW m.w (cellIx m.c 4 sl) = s at *
  by_cases s4 : nuI s 27 3 = 4
  · rw [if_pos s4, jr_more rfl, jSt_num, jMe_num] at hR
    have e6 : getW (mLd m 4 sl).w (cellIx (mLd m 4 sl).c 6 sl) = getW m.w (cellIx m.c 6 sl) := rfl
    rw [e6] at hR
    have hg : (decide (nuI s 27 3 < 2) || decide (nuI s 27 3 > 4) || (nuI s 27 3 == 4 && (getW m.w (cellIx m.c 6 sl) != 0 && decide (getW m.w (cellIx m.c 6 sl) ≤ sn)))) = pastI (getW m.w (cellIx m.c 6 sl)) sn := by
      rw [s4]
      unfold pastI
      show (getW m.w (cellIx m.c 6 sl) != 0 && decide (getW m.w (cellIx m.c 6 sl) ≤ sn)) = _
      congr 1
      rw [Bool.eq_iff_iff, bne_iff_ne, decide_eq_true_eq]
    rw [hg]
    cases hp : pastI (getW m.w (cellIx m.c 6 sl)) sn
    · rw [hp, if_neg (by decide)] at hR
      have := key s numF (mLd (mLd m 4 sl) 6 sl) 16 2 rfl rfl rfl rfl
      rw [hR] at this
      exact this
    · rw [hp, if_pos rfl, jr_stop (by simp)] at hR
      subst hR
      exact ⟨rfl, by simp, fun _ => by simp, rfl, rfl, (if_neg (by simp)).symm⟩
  · rw [if_neg s4] at hR
    by_cases s23 : nuI s 27 3 = 2 ∨ nuI s 27 3 = 3
    · rw [if_pos s23] at hR
      have hg : (decide (nuI s 27 3 < 2) || decide (nuI s 27 3 > 4) || (nuI s 27 3 == 4 && (getW m.w (cellIx m.c 6 sl) != 0 && decide (getW m.w (cellIx m.c 6 sl) ≤ sn)))) = false := by
        rw [beq_eq_false_iff_ne.2 s4, decide_eq_false (by omega), decide_eq_false (by omega)]
        rfl
      rw [hg]
      have := key s lookF (mLd m 4 sl) 17 1 rfl rfl rfl rfl
      rw [hR] at this
      exact ⟨this.1, by have := this.2.1; omega, fun h => by have := this.2.2.1 h; omega, this.2.2.2⟩
    · rw [if_neg s23, jr_stop (by simp)] at hR
      have hg : (decide (nuI s 27 3 < 2) || decide (nuI s 27 3 > 4) || (nuI s 27 3 == 4 && (getW m.w (cellIx m.c 6 sl) != 0 && decide (getW m.w (cellIx m.c 6 sl) ≤ sn)))) = true := by
        by_cases hlt : nuI s 27 3 < 2
        · rw [decide_eq_true hlt]; rfl
        · rw [decide_eq_true (show nuI s 27 3 > 4 by omega), Bool.or_true, Bool.true_or]
      rw [hg]
      subst hR
      exact ⟨rfl, by simp, fun _ => by simp, rfl, rfl, (if_neg (by simp)).symm⟩
/-- One's own end, where it is laid already. -/
theorem ow_has {m : Mm} {sl sd by' : Int} (h : withI (getW m.w (cellIx m.c 4 sl)) sd by' = getW m.w (cellIx m.c 4 sl)) : owRun 20 0 ⟨sl, sd, by', 0, false, false⟩ m = (1, ⟨sl, sd, by', getW m.w (cellIx m.c 4 sl), true, true⟩, mLd m 4 sl) := by
  have e1 : oSt ⟨sl, sd, by', 0, false, false⟩ m = ⟨sl, sd, by', getW m.w (cellIx m.c 4 sl), true, withI (getW m.w (cellIx m.c 4 sl)) sd by' == getW m.w (cellIx m.c 4 sl)⟩ := rfl
  rw [owRun, if_neg (by simp), e1, h, beq_self_eq_true, owRun, if_pos rfl]
  rfl
/-- Laid again, nothing is laid anew. -/
theorem jt_run {m : Mm} {sl sd by' sn : Int} (hr : m.c.Right) (hok : m.ok) (hw : WfW m.w) (h0 : 0 ≤ sl) (h1 : sl < m.c.s) (d0 : 0 ≤ sd) (d1 : sd ≤ 1) (b0 : 0 ≤ by') (b1 : by' ≤ 11) {R Q : Nat × Jn × Mm} (hR : jrRun 20 0 ⟨sl, sd, by', 0, lookF, sn, 0⟩ m = R) (hQ : jrRun 20 0 ⟨sl, sd, by', 0, lookF, sn, 0⟩ R.2.2 = Q) {O : Nat × On × Mm} (hO : owRun 20 0 ⟨sl, sd, by', 0, false, false⟩ Q.2.2 = O) :
    R.2.1.r = Q.2.1.r ∧ Q.1 ≤ 2 ∧ R.2.2.N = m.N ∧ (R.2.1.r = 2 → O.1 = 1 ∧ O.2.2.w = R.2.2.w) := by
  have i4 := ix_slot_rng hr (k := 4) (.inl rfl) h0 h1
  have i6 := ix_slot_rng hr (k := 6) (.inr (.inr (.inl rfl))) h0 h1
  have e4 := ix_slot hr (k := 4) (.inl rfl) h0 h1
  have e6 := ix_slot hr (k := 6) (.inr (.inr (.inl rfl))) h0 h1
  obtain ⟨r1, r2, r3, r4, r5, r6⟩ := ja_run_m hr h0 h1 hR
  obtain ⟨t1, t2, t3, t4, t5, t6⟩ := ja_run_m (m := R.2.2) (by rw [r5]; exact hr) h0 (by rw [r5]; exact h1) hQ
  have hn : getW R.2.2.w (cellIx R.2.2.c 6 sl) = getW m.w (cellIx m.c 6 sl) := by
    rw [r5, r6]
    split
    · exact getW_set_ne (by omega)
    · rfl
  by_cases h2 : R.2.1.r = 2
  · rw [if_pos h2] at r6
    have hs : getW R.2.2.w (cellIx R.2.2.c 4 sl) = withI (getW m.w (cellIx m.c 4 sl)) sd by' := by
      rw [r5, r6]
      exact getW_set_same i4.1 (by have := hok.2; omega)
    have hh : hasI (getW R.2.2.w (cellIx R.2.2.c 4 sl)) sd by' = true := by rw [hs]; exact hasI_with d0 d1 b0 b1
    have hst : nuI (getW R.2.2.w (cellIx R.2.2.c 4 sl)) 27 3 = nuI (getW m.w (cellIx m.c 4 sl)) 27 3 := by rw [hs]; exact nuI_with (hw.getW _).1 _ _
    have hq : Q.2.1.r = 2 := by
      rw [t1]
      rw [h2] at r1
      unfold wantI at r1 ⊢
      rw [hst, hn, hh]
      generalize (decide (nuI (getW m.w (cellIx m.c 4 sl)) 27 3 < 2) || decide (nuI (getW m.w (cellIx m.c 4 sl)) 27 3 > 4) || (nuI (getW m.w (cellIx m.c 4 sl)) 27 3 == 4 && (getW m.w (cellIx m.c 6 sl) != 0 && decide (getW m.w (cellIx m.c 6 sl) ≤ sn)))) = b at *
      cases b
      · rfl
      · exact absurd r1 (by simp)
    have hqw : Q.2.2.w = R.2.2.w := by rw [t6, if_pos hq, withI_has hh, setW_same]
    have ho := ow_has (m := Q.2.2) (sl := sl) (sd := sd) (by' := by') (by rw [hqw, t5]; exact withI_has hh)
    rw [ho] at hO
    subst hO
    exact ⟨by rw [h2, hq], t3 (.inr hh), r4, fun _ => ⟨rfl, hqw⟩⟩
  · rw [if_neg h2] at r6
    have hs : getW R.2.2.w (cellIx R.2.2.c 4 sl) = getW m.w (cellIx m.c 4 sl) := by rw [r5, r6]
    have hq : Q.2.1.r = R.2.1.r := by rw [t1, r1, hs, hn]
    exact ⟨hq.symm, t3 (.inl (by rw [hq]; exact h2)), r4, fun h => absurd h h2⟩
end Go.Proofs.Ytmliekdbhefpkaa.Ct
