/- What 'JoinTwo' comes to: the plain law. -/
import Derived.Test.YtmliekdbhefpkaaLwJoinTwoV
import Derived.Test.YtmliekdbhefpkaaCtBitsJ
namespace Go.Proofs.Ytmliekdbhefpkaa.JoinTwoDone
open Go Go.Proofs Go.Proofs.Ytmliekdbhefpkaa.Ev Go.Proofs.Ytmliekdbhefpkaa.Ct
open Go.RowKit

abbrev Q (c : Cfg) (m : Mm) : Int := getW m.w (cellIx c 4 0)
def Mok (c : Cfg) (m : Mm) : Prop := m.ok ∧ m.c = c ∧ WfW m.w
def Act (q : Int) : Prop := nuI q 27 3 = 2 ∧ Wd q
def Jok (sd by' q : Int) (j : Jn) : Prop := j.sl = 0 ∧ j.sd = sd ∧ j.by' = by' ∧ (j.fn = lookF ∨ j.fn = layF) ∧ Wd j.s ∧ (j.r = 0 ∨ (j.r = 2 ∧ hasI q sd by' = true))
def Ook (q : Int) (o : On) : Prop := o.sl = 0 ∧ o.sd = 0 ∧ o.by' = 7 ∧ Wd o.s ∧ (o.dn = true → hasI q 0 7 = true)
def W3 (xa xb q : Int) : Int := withI (withI (withI q 0 xa) 1 xb) 0 7
def Mv (xa xb q q' : Int) : Prop := q' = q ∨ q' = withI q 0 xa ∨ q' = withI q 1 xb ∨ q' = withI q 0 7
theorem Mv.has {xa xb q q' s b : Int} (h : Mv xa xb q q') (hh : hasI q s b = true) : hasI q' s b = true := by
  rcases h with rfl | rfl | rfl | rfl
  · exact hh
  · exact has_stays hh _ _
  · exact has_stays hh _ _
  · exact has_stays hh _ _
theorem Mv.act {xa xb q q' : Int} (h : Mv xa xb q q') (ha : Act q) : Act q' := by
  rcases h with rfl | rfl | rfl | rfl
  · exact ha
  · exact ⟨(nuI_with ha.2.1 _ _).trans ha.1, withI_rng ha.2 _ _⟩
  · exact ⟨(nuI_with ha.2.1 _ _).trans ha.1, withI_rng ha.2 _ _⟩
  · exact ⟨(nuI_with ha.2.1 _ _).trans ha.1, withI_rng ha.2 _ _⟩
theorem Mv.jok {xa xb q q' s b : Int} {j : Jn} (h : Mv xa xb q q') (hj : Jok s b q j) : Jok s b q' j := by
  obtain ⟨h1, h2, h3, h4, h5, h6⟩ := hj
  exact ⟨h1, h2, h3, h4, h5, h6.imp id fun x => ⟨x.1, h.has x.2⟩⟩
theorem Mv.ook {xa xb q q' : Int} {o : On} (h : Mv xa xb q q') (ho : Ook q o) : Ook q' o := by
  obtain ⟨h1, h2, h3, h4, h5⟩ := ho
  exact ⟨h1, h2, h3, h4, fun x => h.has (h5 x)⟩
theorem Mv.w3 {xa xb q q' : Int} (h : Mv xa xb q q') : W3 xa xb q' = W3 xa xb q := by
  unfold W3
  rcases h with rfl | rfl | rfl | rfl
  · rfl
  · rw [with_idem]
  · rw [with_comm q 1 xb 0 xa, with_idem]
  · rw [with_comm q 0 7 0 xa, with_comm (withI q 0 xa) 0 7 1 xb, with_idem]
def muJ (q : Int) (j : Jn) : Nat := if j.r ≠ 0 then 0 else if j.fn = layF then (if q = j.s then 1 else 3) else 2
def muO (q : Int) (o : On) : Nat := if o.dn = true then 0 else if o.lk = true then (if q = o.s then 1 else 3) else 2
theorem muJ_le (q : Int) (j : Jn) : muJ q j ≤ 3 := by unfold muJ; split <;> (try split) <;> (try split) <;> omega
theorem muO_le (q : Int) (o : On) : muO q o ≤ 3 := by unfold muO; split <;> (try split) <;> (try split) <;> omega
theorem s_pos {c : Cfg} (hr : c.Right) : 0 < c.s := by
  unfold Cfg.Right at hr
  omega
theorem ix0 {c : Cfg} (hr : c.Right) : 0 ≤ cellIx c 4 0 ∧ cellIx c 4 0 < c.len := ix_slot_rng hr (.inl rfl) (by omega) (s_pos hr)
/-- A step of a join, of a status that is active. -/
theorem stepJ {c : Cfg} (hr : c.Right) {m : Mm} {sd by' : Int} {j : Jn} (h0 : 0 ≤ sd) (h1 : sd ≤ 1) (h2 : 0 ≤ by') (h3 : by' ≤ 11) (hM : Mok c m) (hA : Act (Q c m)) (hJ : Jok sd by' (Q c m) j) :
    Mok c (jMe j m) ∧ (Q c (jMe j m) = Q c m ∨ Q c (jMe j m) = withI (Q c m) sd by') ∧ Jok sd by' (Q c (jMe j m)) (jSt j m) ∧ (j.r = 0 → muJ (Q c (jMe j m)) (jSt j m) < muJ (Q c m) j) := by
  obtain ⟨ho, rfl, hw⟩ := hM
  obtain ⟨i0, i1⟩ := ix0 hr
  have hlen : (m.w.length : Int) = m.c.len := ho.2
  obtain ⟨jsl, jsd, jby, js, jfn, jsn, jr⟩ := j
  obtain ⟨a1, a2, a3, a4, a5, a6⟩ := hJ
  simp only at a1 a2 a3 a4 a5 a6
  subst a1 a2 a3
  rcases a6 with rfl | ⟨rfl, hh⟩
  · rcases a4 with rfl | rfl
    · have e2 : jMe ⟨0, jsd, jby, js, lookF, jsn, 0⟩ m = mLd m 4 0 := jMe_look
      have e1 : jSt ⟨0, jsd, jby, js, lookF, jsn, 0⟩ m = Jn.go ⟨0, jsd, jby, Q m.c m, lookF, jsn, 0⟩ := by
        rw [jSt_look, if_neg (by rw [hA.1]; decide), if_pos (.inl hA.1)]
      have d2 : hasI (Q m.c m) jsd jby = true → jdg (Q m.c m) jsd jby = 2 := fun hh => by rw [jdg_eq, if_pos hh]
      have d0 : ¬ hasI (Q m.c m) jsd jby = true → jdg (Q m.c m) jsd jby = 0 := fun hh => by
        rw [jdg_eq, if_neg hh]
        exact if_neg fun x => x.1 hA.1
      rw [e1, e2, go_eq]
      refine ⟨⟨acc_ok ho rfl, rfl, hw⟩, .inl rfl, ?_, fun _ => ?_⟩
      · by_cases hh : hasI (Q m.c m) jsd jby = true
        · rw [d2 hh, if_neg (by decide)]
          exact ⟨rfl, rfl, rfl, .inl rfl, hA.2, .inr ⟨rfl, hh⟩⟩
        · rw [d0 hh, if_pos rfl]
          exact ⟨rfl, rfl, rfl, .inr rfl, hA.2, .inl rfl⟩
      · by_cases hh : hasI (Q m.c m) jsd jby = true
        · rw [d2 hh, if_neg (by decide)]
          exact (show (0 : Nat) < 2 by omega)
        · rw [d0 hh, if_pos rfl]
          show (if Q m.c m = Q m.c m then 1 else 3 : Nat) < 2
          rw [if_pos rfl]
          omega
    · have e2 : jMe ⟨0, jsd, jby, js, layF, jsn, 0⟩ m = mSw m 4 0 js (withI js jsd jby) := jMe_lay
      have e1 : jSt ⟨0, jsd, jby, js, layF, jsn, 0⟩ m = ⟨0, jsd, jby, js, lookF, jsn, if dnS m 4 0 js = true then 2 else 0⟩ := jSt_lay
      have e3 : Q m.c (mSw m 4 0 js (withI js jsd jby)) = getW (swpW m.w (cellIx m.c 4 0) js (withI js jsd jby)) (cellIx m.c 4 0) := rfl
      rw [e1, e2, e3]
      have hmu : muJ (Q m.c m) ⟨0, jsd, jby, js, layF, jsn, 0⟩ = if Q m.c m = js then 1 else 3 := rfl
      refine ⟨⟨acc_ok ho (swpW_len _ _ _ _), rfl, hw.swpW _ _ (withI_rng a5 _ _)⟩, ?_⟩
      by_cases hs : getW m.w (cellIx m.c 4 0) = js
      · have e4 : getW (swpW m.w (cellIx m.c 4 0) js (withI js jsd jby)) (cellIx m.c 4 0) = withI (Q m.c m) jsd jby := by
          rw [swpW_hit hs, getW_set_same i0 (by omega), ← hs]
        rw [e4, dnS_hit i0 hs, if_pos rfl, hmu, if_pos hs]
        exact ⟨.inr rfl, ⟨rfl, rfl, rfl, .inl rfl, a5, .inr ⟨rfl, hasI_with h0 h1 h2 h3⟩⟩, fun _ => show (0 : Nat) < 1 by omega⟩
      · rw [swpW_miss hs, dnS_miss hs, if_neg (by decide), hmu, if_neg hs]
        exact ⟨.inl rfl, ⟨rfl, rfl, rfl, .inl rfl, a5, .inl rfl⟩, fun _ => show (2 : Nat) < 3 by omega⟩
  · have e2 : jMe ⟨0, jsd, jby, js, jfn, jsn, 2⟩ m = m := rfl
    have e1 : jSt ⟨0, jsd, jby, js, jfn, jsn, 2⟩ m = ⟨0, jsd, jby, js, jfn, jsn, 2⟩ := rfl
    rw [e1, e2]
    exact ⟨⟨ho, rfl, hw⟩, .inl rfl, ⟨rfl, rfl, rfl, a4, a5, .inr ⟨rfl, hh⟩⟩, fun x => absurd x (show ¬ (2 : Int) = 0 by decide)⟩
/-- A step of laying one's own end. -/
theorem stepO {c : Cfg} (hr : c.Right) {m : Mm} {o : On} (hM : Mok c m) (hA : Act (Q c m)) (hO : Ook (Q c m) o) :
    Mok c (oMe o m) ∧ (Q c (oMe o m) = Q c m ∨ Q c (oMe o m) = withI (Q c m) 0 7) ∧ Ook (Q c (oMe o m)) (oSt o m) ∧ (o.dn = false → muO (Q c (oMe o m)) (oSt o m) < muO (Q c m) o) := by
  obtain ⟨ho, rfl, hw⟩ := hM
  obtain ⟨i0, i1⟩ := ix0 hr
  have hlen : (m.w.length : Int) = m.c.len := ho.2
  obtain ⟨osl, osd, oby, os, olk, odn⟩ := o
  obtain ⟨a1, a2, a3, a4, a5⟩ := hO
  simp only at a1 a2 a3 a4 a5
  subst a1 a2 a3
  cases odn with
  | true => exact ⟨⟨ho, rfl, hw⟩, .inl rfl, ⟨rfl, rfl, rfl, a4, a5⟩, fun x => by cases x⟩
  | false =>
    cases olk with
    | false =>
      have e2 : oMe ⟨0, 0, 7, os, false, false⟩ m = mLd m 4 0 := rfl
      have e1 : oSt ⟨0, 0, 7, os, false, false⟩ m = ⟨0, 0, 7, Q m.c m, true, withI (Q m.c m) 0 7 == Q m.c m⟩ := rfl
      rw [e1, e2]
      refine ⟨⟨acc_ok ho rfl, rfl, hw⟩, .inl rfl, ⟨rfl, rfl, rfl, hA.2, fun x => ?_⟩, fun _ => ?_⟩
      · have x' : withI (Q m.c m) 0 7 = Q m.c m := beq_iff_eq.1 x
        have y : hasI (withI (Q m.c m) 0 7) 0 7 = true := hasI_with (by omega) (by omega) (by omega) (by omega)
        rw [x'] at y
        exact y
      · show muO (Q m.c m) _ < 2
        cases (withI (Q m.c m) 0 7 == Q m.c m) with
        | true => exact (show (0 : Nat) < 2 by omega)
        | false =>
          show (if Q m.c m = Q m.c m then 1 else 3 : Nat) < 2
          rw [if_pos rfl]
          omega
    | true =>
      have e2 : oMe ⟨0, 0, 7, os, true, false⟩ m = mSw m 4 0 os (withI os 0 7) := rfl
      have e1 : oSt ⟨0, 0, 7, os, true, false⟩ m = ⟨0, 0, 7, os, false, dnS m 4 0 os⟩ := rfl
      have e3 : Q m.c (mSw m 4 0 os (withI os 0 7)) = getW (swpW m.w (cellIx m.c 4 0) os (withI os 0 7)) (cellIx m.c 4 0) := rfl
      rw [e1, e2, e3]
      have hmu : muO (Q m.c m) ⟨0, 0, 7, os, true, false⟩ = if Q m.c m = os then 1 else 3 := rfl
      refine ⟨⟨acc_ok ho (swpW_len _ _ _ _), rfl, hw.swpW _ _ (withI_rng a4 _ _)⟩, ?_⟩
      by_cases hs : getW m.w (cellIx m.c 4 0) = os
      · have e4 : getW (swpW m.w (cellIx m.c 4 0) os (withI os 0 7)) (cellIx m.c 4 0) = withI (Q m.c m) 0 7 := by
          rw [swpW_hit hs, getW_set_same i0 (by omega), ← hs]
        rw [e4, dnS_hit i0 hs, hmu, if_pos hs]
        exact ⟨.inr rfl, ⟨rfl, rfl, rfl, a4, fun _ => hasI_with (by omega) (by omega) (by omega) (by omega)⟩, fun _ => show (0 : Nat) < 1 by omega⟩
      · rw [swpW_miss hs, dnS_miss hs, hmu, if_neg hs]
        exact ⟨.inl rfl, ⟨rfl, rfl, rfl, a4, fun x => by cases x⟩, fun _ => show (2 : Nat) < 3 by omega⟩
structure JT (c : Cfg) (xa xb : Int) (m : Mm) (a b : Jn) (o : On) (want : Int) : Prop where
  mok : Mok c m
  act : Act (Q c m)
  ja : Jok 0 xa (Q c m) a
  jb : Jok 1 xb (Q c m) b
  oo : Ook (Q c m) o
  w3 : W3 xa xb (Q c m) = want
theorem JT.ga {c : Cfg} {xa xb want : Int} {m : Mm} {a b : Jn} {o : On} (h : JT c xa xb m a b o want) : jGood a m ∧ jGood b m ∧ oGood o m :=
  ⟨⟨h.mok.1, h.mok.2.2, h.ja.2.2.2.2.1, h.ja.2.2.2.1.imp id .inr⟩, ⟨h.mok.1, h.mok.2.2, h.jb.2.2.2.2.1, h.jb.2.2.2.1.imp id .inr⟩, ⟨h.mok.1, h.mok.2.2, h.oo.2.2.2.1⟩⟩
theorem JT.sa {c : Cfg} (hr : c.Right) {xa xb want : Int} (x0 : 0 ≤ xa) (x1 : xa ≤ 11) {m : Mm} {a b : Jn} {o : On} (h : JT c xa xb m a b o want) : JT c xa xb (jMe a m) (jSt a m) b o want ∧ (a.r = 0 → muJ (Q c (jMe a m)) (jSt a m) < muJ (Q c m) a) := by
  obtain ⟨s1, s2, s3, s4⟩ := stepJ hr (by omega) (by omega) x0 x1 h.mok h.act h.ja
  have mv : Mv xa xb (Q c m) (Q c (jMe a m)) := s2.imp id .inl
  exact ⟨⟨s1, mv.act h.act, s3, mv.jok h.jb, mv.ook h.oo, mv.w3.trans h.w3⟩, s4⟩
theorem JT.sb {c : Cfg} (hr : c.Right) {xa xb want : Int} (x0 : 0 ≤ xb) (x1 : xb ≤ 11) {m : Mm} {a b : Jn} {o : On} (h : JT c xa xb m a b o want) : JT c xa xb (jMe b m) a (jSt b m) o want ∧ (b.r = 0 → muJ (Q c (jMe b m)) (jSt b m) < muJ (Q c m) b) := by
  obtain ⟨s1, s2, s3, s4⟩ := stepJ hr (by omega) (by omega) x0 x1 h.mok h.act h.jb
  have mv : Mv xa xb (Q c m) (Q c (jMe b m)) := s2.imp id fun x => .inr (.inl x)
  exact ⟨⟨s1, mv.act h.act, mv.jok h.ja, s3, mv.ook h.oo, mv.w3.trans h.w3⟩, s4⟩
theorem JT.so {c : Cfg} (hr : c.Right) {xa xb want : Int} {m : Mm} {a b : Jn} {o : On} (h : JT c xa xb m a b o want) : JT c xa xb (oMe o m) a b (oSt o m) want ∧ (o.dn = false → muO (Q c (oMe o m)) (oSt o m) < muO (Q c m) o) := by
  obtain ⟨s1, s2, s3, s4⟩ := stepO hr h.mok h.act h.oo
  have mv : Mv xa xb (Q c m) (Q c (oMe o m)) := s2.imp id fun x => .inr (.inr x)
  exact ⟨⟨s1, mv.act h.act, mv.jok h.ja, mv.jok h.jb, s3, mv.w3.trans h.w3⟩, s4⟩
theorem muJ_0 {q : Int} {j : Jn} (h : muJ q j ≤ 0) : j.r ≠ 0 := by
  intro e
  unfold muJ at h
  rw [if_neg (by rw [e]; decide)] at h
  split at h
  · split at h <;> omega
  · omega
theorem muO_0 {q : Int} {o : On} (h : muO q o ≤ 0) : o.dn = true := by
  cases e : o.dn with
  | true => rfl
  | false =>
    unfold muO at h
    rw [e] at h
    simp only [Bool.false_eq_true, if_false] at h
    split at h
    · split at h <;> omega
    · omega
theorem JT.ra {c : Cfg} (hr : c.Right) {xa xb want : Int} (x0 : 0 ≤ xa) (x1 : xa ≤ 11) {b : Jn} {o : On} : ∀ (n i : Nat) (a : Jn) (m : Mm), JT c xa xb m a b o want → muJ (Q c m) a ≤ n → (jrRun n i a m).2.1.r ≠ 0 ∧ JT c xa xb (jrRun n i a m).2.2 (jrRun n i a m).2.1 b o want := by
  intro n
  induction n with
  | zero => exact fun i a m h hm => ⟨muJ_0 hm, h⟩
  | succ n ih =>
    intro i a m h hm
    by_cases e : a.r = 0
    · rw [jr_more e]
      have x := h.sa hr x0 x1
      exact ih _ _ _ x.1 (by have := x.2 e; omega)
    · rw [jr_stop e]
      exact ⟨e, h⟩
theorem JT.rb {c : Cfg} (hr : c.Right) {xa xb want : Int} (x0 : 0 ≤ xb) (x1 : xb ≤ 11) {a : Jn} {o : On} : ∀ (n i : Nat) (b : Jn) (m : Mm), JT c xa xb m a b o want → muJ (Q c m) b ≤ n → (jrRun n i b m).2.1.r ≠ 0 ∧ JT c xa xb (jrRun n i b m).2.2 a (jrRun n i b m).2.1 o want := by
  intro n
  induction n with
  | zero => exact fun i b m h hm => ⟨muJ_0 hm, h⟩
  | succ n ih =>
    intro i b m h hm
    by_cases e : b.r = 0
    · rw [jr_more e]
      have x := h.sb hr x0 x1
      exact ih _ _ _ x.1 (by have := x.2 e; omega)
    · rw [jr_stop e]
      exact ⟨e, h⟩
theorem JT.ro {c : Cfg} (hr : c.Right) {xa xb want : Int} {a b : Jn} : ∀ (n i : Nat) (o : On) (m : Mm), JT c xa xb m a b o want → muO (Q c m) o ≤ n → (owRun n i o m).2.1.dn = true ∧ JT c xa xb (owRun n i o m).2.2 a b (owRun n i o m).2.1 want := by
  intro n
  induction n with
  | zero => exact fun i o m h hm => ⟨muO_0 hm, h⟩
  | succ n ih =>
    intro i o m h hm
    cases e : o.dn with
    | true =>
      rw [owRun, if_pos e]
      exact ⟨e, h⟩
    | false =>
      rw [owRun, if_neg (by rw [e]; decide)]
      have x := h.so hr
      exact ih _ _ _ x.1 (by have := x.2 e; omega)
end Go.Proofs.Ytmliekdbhefpkaa.JoinTwoDone
