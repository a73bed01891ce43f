/- Plain laws of words and spots, and of a join alone. -/
import Derived.Test.YtmliekdbhefpkaaCtAl11
namespace Go.Proofs.Ytmliekdbhefpkaa.Ct
open Go Go.Proofs Go.Proofs.Ytmliekdbhefpkaa.Ev
open Go.RowKit

/-- The word at a place of a row that was handed in, as the code reads it. -/
def cv (l : List Int) (off : Nat) (i : Int) : Int := l.getD (addN off (mulN i.toNat 1) - off) 0
theorem cv_eq {l : List Int} {off : Nat} {i : Int} (h : 0 ≤ i) : cv l off i = getW l i := by
  unfold cv getW
  rw [if_pos h, addN_eq, mulN_eq]
  congr 1
  omega
def cvP (l : List Int) (off : Nat) (i : Int) : List Prop := [0 ≤ i, i < (l.length : Int), off ≤ addN off (mulN i.toNat 1), addN off (mulN i.toNat 1) - off < l.length]
theorem cvP_ok {l : List Int} {off : Nat} {i : Int} (h : 0 ≤ i) (h1 : i < (l.length : Int)) : 0 ≤ i ∧ i < (l.length : Int) ∧ off ≤ addN off (mulN i.toNat 1) ∧ addN off (mulN i.toNat 1) - off < l.length := by
  rw [addN_eq, mulN_eq]
  omega
theorem ix_slot {c : Cfg} (hr : c.Right) {k n : Int} (hk : k = 4 ∨ k = 5 ∨ k = 6 ∨ k = 7) (h0 : 0 ≤ n) (h1 : n < c.s) : cellIx c k n = 2 + c.t + (k - 4) + n * 4 := by
  unfold cellIx
  rw [if_pos ⟨hr, h0⟩, if_neg (by omega), if_neg (by omega), if_pos hk, if_pos h1]
theorem ix_slot_rng {c : Cfg} (hr : c.Right) {k n : Int} (hk : k = 4 ∨ k = 5 ∨ k = 6 ∨ k = 7) (h0 : 0 ≤ n) (h1 : n < c.s) : 0 ≤ cellIx c k n ∧ cellIx c k n < c.len := by
  rw [ix_slot hr hk h0 h1]
  have hr' := hr
  unfold Cfg.Right at hr'
  unfold Cfg.len
  rw [if_pos hr]
  omega
theorem putI_same {w n : Int} {b : Bool} (h : bitI w n = b) : putI w n b = w := if_pos h
theorem withI_has {w sd by' : Int} (h : hasI w sd by' = true) : withI w sd by' = w := by
  unfold hasI at h
  rw [Bool.and_eq_true, decide_eq_true_eq] at h
  unfold withI
  rw [if_neg (by omega), putI_same h.2]
theorem setW_same (w : List Int) (i : Int) : setW w i (getW w i) = w := by
  unfold setW getW
  split
  · exact set_same w _
  · rfl
theorem swpW_hit {w : List Int} {i o v : Int} (h : getW w i = o) : swpW w i o v = setW w i v := if_pos h
theorem swpW_miss {w : List Int} {i o v : Int} (h : getW w i ≠ o) : swpW w i o v = w := if_neg h
theorem dnS_hit {m : Mm} {kd n o : Int} (h0 : 0 ≤ cellIx m.c kd n) (h : getW m.w (cellIx m.c kd n) = o) : dnS m kd n o = true := by
  unfold dnS
  rw [decide_eq_true h0, h]
  simp
theorem dnS_miss {m : Mm} {kd n o : Int} (h : getW m.w (cellIx m.c kd n) ≠ o) : dnS m kd n o = false := by
  unfold dnS
  rw [beq_eq_false_iff_ne.2 h, Bool.and_false]
/-! A join alone -/
theorem jr_more {j : Jn} (h : j.r = 0) (n i : Nat) (m : Mm) : jrRun (n + 1) i j m = jrRun n (i + 1) (jSt j m) (jMe j m) := by
  rw [jrRun, if_neg (by rw [h]; decide)]
theorem jr_stop {j : Jn} (h : j.r ≠ 0) (n i : Nat) (m : Mm) : jrRun n i j m = (i, j, m) := by
  cases n with
  | zero => rfl
  | succ n => rw [jrRun, if_pos (bne_iff_ne.2 h)]
/-- What a join comes to, alone. -/
def wantI (s n sd by' sn : Int) : Int := bif decide (nuI s 27 3 < 2) || decide (nuI s 27 3 > 4) || (nuI s 27 3 == 4 && (n != 0 && decide (n ≤ sn))) then 1 else bif hasI s sd by' then 2 else bif nuI s 27 3 != 2 && anyI s (w64 (1 - sd)) then 3 else 2
theorem jSt_look {sl sd by' s sn : Int} {m : Mm} : jSt ⟨sl, sd, by', s, lookF, sn, 0⟩ m = (if nuI (getW m.w (cellIx m.c 4 sl)) 27 3 = 4 then ⟨sl, sd, by', getW m.w (cellIx m.c 4 sl), numF, sn, 0⟩ else if nuI (getW m.w (cellIx m.c 4 sl)) 27 3 = 2 ∨ nuI (getW m.w (cellIx m.c 4 sl)) 27 3 = 3 then Jn.go ⟨sl, sd, by', getW m.w (cellIx m.c 4 sl), lookF, sn, 0⟩ else ⟨sl, sd, by', getW m.w (cellIx m.c 4 sl), lookF, sn, 1⟩) := rfl
theorem jSt_num {sl sd by' s sn : Int} {m : Mm} : jSt ⟨sl, sd, by', s, numF, sn, 0⟩ m = (if pastI (getW m.w (cellIx m.c 6 sl)) sn = true then ⟨sl, sd, by', s, numF, sn, 1⟩ else Jn.go ⟨sl, sd, by', s, numF, sn, 0⟩) := rfl
theorem jSt_lay {sl sd by' s sn : Int} {m : Mm} : jSt ⟨sl, sd, by', s, layF, sn, 0⟩ m = ⟨sl, sd, by', s, lookF, sn, if dnS m 4 sl s = true then 2 else 0⟩ := rfl
theorem jMe_look {sl sd by' s sn : Int} {m : Mm} : jMe ⟨sl, sd, by', s, lookF, sn, 0⟩ m = mLd m 4 sl := rfl
theorem jMe_num {sl sd by' s sn : Int} {m : Mm} : jMe ⟨sl, sd, by', s, numF, sn, 0⟩ m = mLd m 6 sl := rfl
theorem jMe_lay {sl sd by' s sn : Int} {m : Mm} : jMe ⟨sl, sd, by', s, layF, sn, 0⟩ m = mSw m 4 sl s (withI s sd by') := rfl
theorem go_eq (sl sd by' s sn : Int) (f : FuncId) : Jn.go ⟨sl, sd, by', s, f, sn, 0⟩ = (if jdg s sd by' = 0 then ⟨sl, sd, by', s, layF, sn, 0⟩ else ⟨sl, sd, by', s, f, sn, jdg s sd by'⟩) := rfl
theorem jdg_eq (s sd by' : Int) : jdg s sd by' = if hasI s sd by' = true then 2 else if nuI s 27 3 ≠ 2 ∧ anyI s (w64 (1 - sd)) = true then 3 else 0 := rfl
/-- From the judging on. -/
theorem ja_go {sl sd by' s sn : Int} {f : FuncId} {m : Mm} {n i : Nat} (hs : getW m.w (cellIx m.c 4 sl) = s) (h4 : 0 ≤ cellIx m.c 4 sl) :
    let R := jrRun (n + 2) i (Jn.go ⟨sl, sd, by', s, f, sn, 0⟩) m
    R.2.1.r = (bif hasI s sd by' then 2 else bif nuI s 27 3 != 2 && anyI s (w64 (1 - sd)) then 3 else 2) ∧ R.1 ≤ i + 1 ∧ R.2.2.N = m.N ∧ R.2.2.w = (if R.2.1.r = 2 then setW m.w (cellIx m.c 4 sl) (withI s sd by') else m.w) := by
  intro R
  have hR : R = jrRun (n + 2) i (Jn.go ⟨sl, sd, by', s, f, sn, 0⟩) m := rfl
  rw [go_eq, jdg_eq] at hR
  by_cases hh : hasI s sd by' = true
  · rw [if_pos hh, if_neg (by decide), jr_stop (by simp)] at hR
    rw [hR, hh]
    refine ⟨rfl, Nat.le_succ i, rfl, ?_⟩
    rw [if_pos rfl, withI_has hh, ← hs, setW_same]
  · have hh' := eq_false_of_ne_true hh
    rw [if_neg hh] at hR
    by_cases ha : nuI s 27 3 ≠ 2 ∧ anyI s (w64 (1 - sd)) = true
    · rw [if_pos ha, if_neg (by decide), jr_stop (by simp)] at hR
      rw [hR, hh', bne_iff_ne.2 ha.1, ha.2]
      exact ⟨rfl, Nat.le_succ i, rfl, (if_neg (by simp)).symm⟩
    · rw [if_neg ha, if_pos rfl, jr_more rfl, jSt_lay, jMe_lay, dnS_hit h4 hs, if_pos rfl, jr_stop (by simp)] at hR
      have hb : (nuI s 27 3 != 2 && anyI s (w64 (1 - sd))) = false := by
        cases hx : (nuI s 27 3 != 2 && anyI s (w64 (1 - sd)))
        · rfl
        · rw [Bool.and_eq_true, bne_iff_ne] at hx
          exact absurd hx ha
      rw [hR, hh', hb]
      exact ⟨rfl, Nat.le_refl _, rfl, (swpW_hit hs).trans (if_pos rfl).symm⟩
theorem ja_run {c : Cfg} {l : List Int} {sl sd by' sn : Int} (hr : c.Right) (h0 : 0 ≤ sl) (h1 : sl < c.s) {R : Nat × Jn × Mm} (hR : jrRun 20 0 ⟨sl, sd, by', 0, lookF, sn, 0⟩ (newM c l) = R) :
    R.2.1.r = wantI (getW l (cellIx c 4 sl)) (getW l (cellIx c 6 sl)) sd by' sn ∧ R.1 ≤ 3 ∧ R.2.2.N = l.length ∧ R.2.2.w = (if R.2.1.r = 2 then setW l (cellIx c 4 sl) (withI (getW l (cellIx c 4 sl)) sd by') else l) := by
  have i4 := ix_slot_rng hr (k := 4) (.inl rfl) h0 h1
  rw [jr_more rfl, jSt_look, jMe_look] at hR
  have e4 : getW (newM c l).w (cellIx (newM c l).c 4 sl) = getW l (cellIx c 4 sl) := rfl
  rw [e4] at hR
  unfold wantI
  generalize hs : getW l (cellIx c 4 sl) = s at *
  by_cases s4 : nuI s 27 3 = 4
  · rw [if_pos s4, jr_more rfl, jSt_num, jMe_num] at hR
    have e6 : getW (mLd (newM c l) 4 sl).w (cellIx (mLd (newM c l) 4 sl).c 6 sl) = getW l (cellIx c 6 sl) := rfl
    rw [e6] at hR
    have hg : (decide (nuI s 27 3 < 2) || decide (nuI s 27 3 > 4) || (nuI s 27 3 == 4 && (getW l (cellIx c 6 sl) != 0 && decide (getW l (cellIx c 6 sl) ≤ sn)))) = pastI (getW l (cellIx c 6 sl)) sn := by
      rw [s4]
      unfold pastI
      show (getW l (cellIx c 6 sl) != 0 && decide (getW l (cellIx c 6 sl) ≤ sn)) = _
      congr 1
      rw [Bool.eq_iff_iff, bne_iff_ne, decide_eq_true_eq]
    rw [hg]
    cases hp : pastI (getW l (cellIx c 6 sl)) sn
    · rw [hp, if_neg (by decide)] at hR
      have := ja_go (sl := sl) (sd := sd) (by' := by') (s := s) (sn := sn) (f := numF) (m := mLd (mLd (newM c l) 4 sl) 6 sl) (n := 16) (i := 2) hs i4.1
      rw [hR] at this
      exact this
    · rw [hp, if_pos rfl, jr_stop (by simp)] at hR
      subst hR
      exact ⟨rfl, by simp, rfl, (if_neg (by simp)).symm⟩
  · rw [if_neg s4] at hR
    by_cases s23 : nuI s 27 3 = 2 ∨ nuI s 27 3 = 3
    · rw [if_pos s23] at hR
      have hg : (decide (nuI s 27 3 < 2) || decide (nuI s 27 3 > 4) || (nuI s 27 3 == 4 && (getW l (cellIx c 6 sl) != 0 && decide (getW l (cellIx c 6 sl) ≤ sn)))) = false := by
        rw [beq_eq_false_iff_ne.2 s4, decide_eq_false (by omega), decide_eq_false (by omega)]
        rfl
      rw [hg]
      have := ja_go (sl := sl) (sd := sd) (by' := by') (s := s) (sn := sn) (f := lookF) (m := mLd (newM c l) 4 sl) (n := 17) (i := 1) hs i4.1
      rw [hR] at this
      exact ⟨this.1, by have := this.2.1; omega, this.2.2.1, this.2.2.2⟩
    · rw [if_neg s23, jr_stop (by simp)] at hR
      have hg : (decide (nuI s 27 3 < 2) || decide (nuI s 27 3 > 4) || (nuI s 27 3 == 4 && (getW l (cellIx c 6 sl) != 0 && decide (getW l (cellIx c 6 sl) ≤ sn)))) = true := by
        by_cases hlt : nuI s 27 3 < 2
        · rw [decide_eq_true hlt]; rfl
        · rw [decide_eq_true (show nuI s 27 3 > 4 by omega), Bool.or_true, Bool.true_or]
      rw [hg]
      subst hR
      exact ⟨rfl, by simp, rfl, (if_neg (by simp)).symm⟩
end Go.Proofs.Ytmliekdbhefpkaa.Ct
