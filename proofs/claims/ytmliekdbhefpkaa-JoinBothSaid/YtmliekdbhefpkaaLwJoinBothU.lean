/- What 'JoinBoth' comes to, of any input: it returns true and changes nothing that was there. -/
import Derived.Test.YtmliekdbhefpkaaLwJoinBothV
namespace Go.Proofs.Ytmliekdbhefpkaa.JoinBothDone
open Go Go.Proofs Go.Proofs.Ytmliekdbhefpkaa.Ev Go.Proofs.Ytmliekdbhefpkaa.Ct
open Go.RowKit

abbrev Q (c : Cfg) (m : Mm) : Int := getW m.w (cellIx c 4 0)
abbrev Nb (c : Cfg) (m : Mm) : Int := getW m.w (cellIx c 6 0)
def Mok (c : Cfg) (m : Mm) : Prop := m.ok ∧ m.c = c ∧ WfW m.w
/-- Committing, or committed, with its number; of one side at most. -/
structure Act (st q nb : Int) : Prop where
  s : nuI q 27 3 = st
  w : Wd q
  n : nb = 9
  one : ¬ (anyI q 0 = true ∧ anyI q 1 = true)
/-- What was seen is there still. -/
def Mo (sd by' s q : Int) : Prop := (hasI s sd by' = true → hasI q sd by' = true) ∧ (anyI s (1 - sd) = true → anyI q (1 - sd) = true)
structure Jok (st sd by' q : Int) (j : Jn) : Prop where
  k1 : j.sl = 0
  k2 : j.sd = sd
  k3 : j.by' = by'
  k4 : j.sn = 5
  fn : j.fn = lookF ∨ j.fn = numF ∨ j.fn = layF
  w : Wd j.s
  m : j.fn ≠ lookF → Mo sd by' j.s q ∧ nuI j.s 27 3 = st
  l : j.fn = layF → ¬ anyI j.s (1 - sd) = true
  r : j.r = 0 ∨ (j.r = 2 ∧ hasI q sd by' = true) ∨ (j.r = 3 ∧ anyI q (1 - sd) = true)
def Mv (xa xb q q' : Int) : Prop := q' = q ∨ q' = withI q 0 xa ∨ q' = withI q 1 xb
theorem Mv.has {xa xb q q' s b : Int} (h : Mv xa xb q q') (hh : hasI q s b = true) : hasI q' s b = true := by
  rcases h with rfl | rfl | rfl
  · exact hh
  · exact has_stays hh _ _
  · exact has_stays hh _ _
theorem Mv.any {xa xb q q' s : Int} (h : Mv xa xb q q') (h0 : 0 ≤ s) (h1 : s ≤ 1) (hh : anyI q s = true) : anyI q' s = true := by
  rcases h with rfl | rfl | rfl
  · exact hh
  · exact any_stays h0 h1 hh
  · exact any_stays h0 h1 hh
theorem Mv.jok {xa xb q q' st s b : Int} {j : Jn} (h : Mv xa xb q q') (h0 : 0 ≤ s) (h1 : s ≤ 1) (hj : Jok st s b q j) : Jok st s b q' j := by
  obtain ⟨a1, a2, a3, a4, a5, a6, a7, a8, a9⟩ := hj
  refine ⟨a1, a2, a3, a4, a5, a6, fun x => ⟨⟨fun y => h.has ((a7 x).1.1 y), fun y => h.any (by omega) (by omega) ((a7 x).1.2 y)⟩, (a7 x).2⟩, a8, ?_⟩
  rcases a9 with e | e | e
  · exact .inl e
  · exact .inr (.inl ⟨e.1, h.has e.2⟩)
  · exact .inr (.inr ⟨e.1, h.any (by omega) (by omega) e.2⟩)
def muJ (q : Int) (j : Jn) : Nat := if j.r ≠ 0 then 0 else if j.fn = layF then (if q = j.s then 1 else 5) else if j.fn = numF then (if q = j.s then 2 else 6) else 3
theorem muJ_le (q : Int) (j : Jn) : muJ q j ≤ 6 := by unfold muJ; split <;> (try split) <;> (try split) <;> (try split) <;> omega
theorem s_pos {c : Cfg} (hr : c.Right) : 0 < c.s := by
  unfold Cfg.Right at hr
  omega
theorem ix0 {c : Cfg} (hr : c.Right) : 0 ≤ cellIx c 4 0 ∧ cellIx c 4 0 < c.len := ix_slot_rng hr (.inl rfl) (by omega) (s_pos hr)
theorem ix6 {c : Cfg} (hr : c.Right) : 0 ≤ cellIx c 6 0 ∧ cellIx c 6 0 < c.len ∧ cellIx c 4 0 ≠ cellIx c 6 0 := by
  have a := ix_slot_rng hr (k := 6) (n := 0) (.inr (.inr (.inl rfl))) (by omega) (s_pos hr)
  have e4 := ix_slot hr (k := 4) (n := 0) (.inl rfl) (by omega) (s_pos hr)
  have e6 := ix_slot hr (k := 6) (n := 0) (.inr (.inr (.inl rfl))) (by omega) (s_pos hr)
  exact ⟨a.1, a.2, by omega⟩
/-- What a judging comes to, of a status that is committing, or committed. -/
theorem jd {s sd by' st : Int} (hs : nuI s 27 3 = st) (hst : st = 3 ∨ st = 4) (h0 : 0 ≤ sd) (h1 : sd ≤ 1) : jdg s sd by' = if hasI s sd by' = true then 2 else if anyI s (1 - sd) = true then 3 else 0 := by
  rw [jdg_eq, w64_in (n := 1 - sd) (by omega) (by omega)]
  by_cases h : hasI s sd by' = true
  · rw [if_pos h, if_pos h]
  · rw [if_neg h, if_neg h]
    by_cases k : anyI s (1 - sd) = true
    · rw [if_pos k, if_pos ⟨by omega, k⟩]
    · rw [if_neg k, if_neg fun x => k x.2]
/-- Behind a judging of what was seen. -/
theorem judged {s sd by' st q sn : Int} {f : FuncId} (hf : f = lookF ∨ f = numF) (hs : nuI s 27 3 = st) (hst : st = 3 ∨ st = 4) (h0 : 0 ≤ sd) (h1 : sd ≤ 1) (hw : Wd s) (hm : Mo sd by' s q) (hsn : sn = 5) :
    Jok st sd by' q (Jn.go ⟨0, sd, by', s, f, sn, 0⟩) ∧ (muJ q (Jn.go ⟨0, sd, by', s, f, sn, 0⟩) = 0 ∨ muJ q (Jn.go ⟨0, sd, by', s, f, sn, 0⟩) = if q = s then 1 else 5) := by
  have hfn : f ≠ layF := by rcases hf with rfl | rfl <;> decide
  have hfo : f = lookF ∨ f = numF ∨ f = layF := hf.imp id .inl
  have e := jd (by' := by') hs hst h0 h1
  rw [go_eq]
  by_cases h : hasI s sd by' = true
  · rw [if_pos h] at e
    rw [e, if_neg (by decide)]
    exact ⟨⟨rfl, rfl, rfl, hsn, hfo, hw, fun _ => ⟨hm, hs⟩, fun x => absurd x hfn, .inr (.inl ⟨rfl, hm.1 h⟩)⟩, .inl rfl⟩
  · rw [if_neg h] at e
    by_cases k : anyI s (1 - sd) = true
    · rw [if_pos k] at e
      rw [e, if_neg (by decide)]
      exact ⟨⟨rfl, rfl, rfl, hsn, hfo, hw, fun _ => ⟨hm, hs⟩, fun x => absurd x hfn, .inr (.inr ⟨rfl, hm.2 k⟩)⟩, .inl rfl⟩
    · rw [if_neg k] at e
      rw [e, if_pos rfl]
      exact ⟨⟨rfl, rfl, rfl, hsn, .inr (.inr rfl), hw, fun _ => ⟨hm, hs⟩, fun _ => k, .inl rfl⟩, .inr rfl⟩
theorem stepJ {c : Cfg} (hr : c.Right) {m : Mm} {st sd by' : Int} {j : Jn} (hst : st = 3 ∨ st = 4) (h0 : 0 ≤ sd) (h1 : sd ≤ 1) (h2 : 0 ≤ by') (h3 : by' ≤ 11) (hM : Mok c m) (hA : Act st (Q c m) (Nb c m)) (hJ : Jok st sd by' (Q c m) j) :
    Mok c (jMe j m) ∧ (Q c (jMe j m) = Q c m ∨ Q c (jMe j m) = withI (Q c m) sd by') ∧ Act st (Q c (jMe j m)) (Nb c (jMe j m)) ∧ Jok st sd by' (Q c (jMe j m)) (jSt j m) ∧ (j.r = 0 → muJ (Q c (jMe j m)) (jSt j m) < muJ (Q c m) j) := by
  obtain ⟨ho, rfl, hw⟩ := hM
  obtain ⟨i0, i1⟩ := ix0 hr
  obtain ⟨k0, k1, k2⟩ := ix6 hr
  have hlen : (m.w.length : Int) = m.c.len := ho.2
  obtain ⟨jsl, jsd, jby, js, jfn, jsn, jr⟩ := j
  obtain ⟨a1, a2, a3, a4, a5, a6, a7, a8, a9⟩ := hJ
  simp only at a1 a2 a3 a4 a5 a6 a7 a8 a9
  subst a1 a2 a3 a4
  rcases a9 with rfl | hdone
  · rcases a5 with rfl | rfl | rfl
    · -- it looks
      have e2 : jMe ⟨0, jsd, jby, js, lookF, 5, 0⟩ m = mLd m 4 0 := jMe_look
      have hmu : muJ (Q m.c m) ⟨0, jsd, jby, js, lookF, 5, 0⟩ = 3 := rfl
      have mo : Mo jsd jby (Q m.c m) (Q m.c m) := ⟨id, id⟩
      rw [e2, hmu, jSt_look]
      by_cases e : st = 4
      · have e4 : nuI (getW m.w (cellIx m.c 4 0)) 27 3 = 4 := hA.s.trans e
        rw [if_pos e4]
        refine ⟨⟨ho, rfl, hw⟩, .inl rfl, hA, ⟨rfl, rfl, rfl, rfl, .inr (.inl rfl), hA.w, fun _ => ⟨mo, hA.s⟩, fun x => absurd x (show numF ≠ layF by decide), .inl rfl⟩, fun _ => ?_⟩
        show (if Q m.c m = Q m.c m then 2 else 6 : Nat) < 3
        rw [if_pos rfl]
        omega
      · have e4 : ¬ nuI (getW m.w (cellIx m.c 4 0)) 27 3 = 4 := fun x => e (hA.s.symm.trans x)
        have e3 : nuI (getW m.w (cellIx m.c 4 0)) 27 3 = 3 := hA.s.trans (by omega)
        rw [if_neg e4, if_pos (.inr e3)]
        have g := judged (f := lookF) (q := Q m.c m) (sn := 5) (by' := jby) (.inl rfl) hA.s hst h0 h1 hA.w mo rfl
        have g2 := g.2
        rw [if_pos rfl] at g2
        have g3 : muJ (Q m.c m) (Jn.go ⟨0, jsd, jby, Q m.c m, lookF, 5, 0⟩) < 3 := by omega
        exact ⟨⟨ho, rfl, hw⟩, .inl rfl, hA, g.1, fun _ => g3⟩
    · -- it looks at the number
      have e2 : jMe ⟨0, jsd, jby, js, numF, 5, 0⟩ m = mLd m 6 0 := jMe_num
      have hn : getW m.w (cellIx m.c 6 0) = 9 := hA.n
      obtain ⟨hm, hs⟩ := a7 (by decide)
      rw [e2, jSt_num, hn, if_neg (by decide)]
      have g := judged (f := numF) (q := Q m.c m) (sn := 5) (by' := jby) (.inr rfl) hs hst h0 h1 a6 hm rfl
      refine ⟨⟨ho, rfl, hw⟩, .inl rfl, hA, g.1, fun _ => ?_⟩
      have g2 := g.2
      show muJ (Q m.c m) _ < (if Q m.c m = js then 2 else 6 : Nat)
      split
      · rename_i e
        rw [if_pos e] at g2
        omega
      · rename_i e
        rw [if_neg e] at g2
        omega
    · -- it lays
      have e2 : jMe ⟨0, jsd, jby, js, layF, 5, 0⟩ m = mSw m 4 0 js (withI js jsd jby) := jMe_lay
      have e1 : jSt ⟨0, jsd, jby, js, layF, 5, 0⟩ m = ⟨0, jsd, jby, js, lookF, 5, if dnS m 4 0 js = true then 2 else 0⟩ := jSt_lay
      have e3 : Q m.c (mSw m 4 0 js (withI js jsd jby)) = getW (swpW m.w (cellIx m.c 4 0) js (withI js jsd jby)) (cellIx m.c 4 0) := rfl
      have e6 : Nb m.c (mSw m 4 0 js (withI js jsd jby)) = getW (swpW m.w (cellIx m.c 4 0) js (withI js jsd jby)) (cellIx m.c 6 0) := rfl
      have hmu : muJ (Q m.c m) ⟨0, jsd, jby, js, layF, 5, 0⟩ = if Q m.c m = js then 1 else 5 := rfl
      obtain ⟨hm, hs⟩ := a7 (by decide)
      have hno := a8 rfl
      rw [e1, e2, e3, e6, hmu]
      refine ⟨⟨acc_ok ho (swpW_len _ _ _ _), rfl, hw.swpW _ _ (withI_rng a6 _ _)⟩, ?_⟩
      by_cases hq : getW m.w (cellIx m.c 4 0) = js
      · have e4 : getW (swpW m.w (cellIx m.c 4 0) js (withI js jsd jby)) (cellIx m.c 4 0) = withI (Q m.c m) jsd jby := by
          rw [swpW_hit hq, getW_set_same i0 (by omega), ← hq]
        have e5 : getW (swpW m.w (cellIx m.c 4 0) js (withI js jsd jby)) (cellIx m.c 6 0) = 9 := by
          rw [swpW_hit hq, getW_set_ne k2]
          exact hA.n
        have oth : anyI (withI (Q m.c m) jsd jby) (1 - jsd) = anyI (Q m.c m) (1 - jsd) := any_other h0 h1 (by omega) (by omega) (by omega)
        have hq' : anyI (Q m.c m) (1 - jsd) ≠ true := by rw [show Q m.c m = js from hq]; exact hno
        rw [e4, e5, dnS_hit i0 hq, if_pos rfl, if_pos hq]
        refine ⟨.inr rfl, ⟨(nuI_with hA.w.1 _ _).trans hA.s, withI_rng hA.w _ _, rfl, fun x => ?_⟩, ⟨rfl, rfl, rfl, rfl, .inl rfl, a6, fun x => absurd rfl x, fun x => absurd x (show lookF ≠ layF by decide), .inr (.inl ⟨rfl, hasI_with h0 h1 h2 h3⟩)⟩, fun _ => show (0 : Nat) < 1 by omega⟩
        obtain rfl | rfl : jsd = 0 ∨ jsd = 1 := by omega
        · exact hq' (by rw [← oth]; exact x.2)
        · exact hq' (by rw [← oth]; exact x.1)
      · rw [swpW_miss hq, dnS_miss hq, if_neg (by decide), if_neg hq]
        exact ⟨.inl rfl, hA, ⟨rfl, rfl, rfl, rfl, .inl rfl, a6, fun x => absurd rfl x, fun x => absurd x (show lookF ≠ layF by decide), .inl rfl⟩, fun _ => show (3 : Nat) < 5 by omega⟩
  · have hne : jr ≠ 0 := by rcases hdone with ⟨rfl, _⟩ | ⟨rfl, _⟩ <;> decide
    have e2 : jMe ⟨0, jsd, jby, js, jfn, 5, jr⟩ m = m := if_pos hne
    have e1 : jSt ⟨0, jsd, jby, js, jfn, 5, jr⟩ m = ⟨0, jsd, jby, js, jfn, 5, jr⟩ := if_pos hne
    rw [e1, e2]
    exact ⟨⟨ho, rfl, hw⟩, .inl rfl, hA, ⟨rfl, rfl, rfl, rfl, a5, a6, a7, a8, .inr hdone⟩, fun x => absurd x hne⟩
structure JB (c : Cfg) (st xa xb : Int) (m : Mm) (a b : Jn) : Prop where
  mok : Mok c m
  act : Act st (Q c m) (Nb c m)
  ja : Jok st 0 xa (Q c m) a
  jb : Jok st 1 xb (Q c m) b
theorem JB.ga {c : Cfg} {st xa xb : Int} {m : Mm} {a b : Jn} (h : JB c st xa xb m a b) : jGood a m ∧ jGood b m :=
  ⟨⟨h.mok.1, h.mok.2.2, h.ja.w, h.ja.fn⟩, ⟨h.mok.1, h.mok.2.2, h.jb.w, h.jb.fn⟩⟩
theorem JB.sa {c : Cfg} (hr : c.Right) {st xa xb : Int} (hst : st = 3 ∨ st = 4) (x0 : 0 ≤ xa) (x1 : xa ≤ 11) {m : Mm} {a b : Jn} (h : JB c st xa xb m a b) : JB c st xa xb (jMe a m) (jSt a m) b ∧ (a.r = 0 → muJ (Q c (jMe a m)) (jSt a m) < muJ (Q c m) a) := by
  obtain ⟨s1, s2, s3, s4, s5⟩ := stepJ hr hst (by omega) (by omega) x0 x1 h.mok h.act h.ja
  have mv : Mv xa xb (Q c m) (Q c (jMe a m)) := s2.imp id .inl
  exact ⟨⟨s1, s3, s4, mv.jok (by omega) (by omega) h.jb⟩, s5⟩
theorem JB.sb {c : Cfg} (hr : c.Right) {st xa xb : Int} (hst : st = 3 ∨ st = 4) (x0 : 0 ≤ xb) (x1 : xb ≤ 11) {m : Mm} {a b : Jn} (h : JB c st xa xb m a b) : JB c st xa xb (jMe b m) a (jSt b m) ∧ (b.r = 0 → muJ (Q c (jMe b m)) (jSt b m) < muJ (Q c m) b) := by
  obtain ⟨s1, s2, s3, s4, s5⟩ := stepJ hr hst (by omega) (by omega) x0 x1 h.mok h.act h.jb
  have mv : Mv xa xb (Q c m) (Q c (jMe b m)) := s2.imp id .inr
  exact ⟨⟨s1, s3, mv.jok (by omega) (by omega) h.ja, s4⟩, s5⟩
theorem muJ_0 {q : Int} {j : Jn} (h : muJ q j ≤ 0) : j.r ≠ 0 := by
  intro e
  unfold muJ at h
  rw [if_neg (by rw [e]; decide)] at h
  split at h
  · split at h <;> omega
  · split at h
    · split at h <;> omega
    · omega
theorem JB.ra {c : Cfg} (hr : c.Right) {st xa xb : Int} (hst : st = 3 ∨ st = 4) (x0 : 0 ≤ xa) (x1 : xa ≤ 11) {b : Jn} : ∀ (n i : Nat) (a : Jn) (m : Mm), JB c st xa xb m a b → muJ (Q c m) a ≤ n → (jrRun n i a m).2.1.r ≠ 0 ∧ JB c st xa xb (jrRun n i a m).2.2 (jrRun n i a m).2.1 b := by
  intro n
  induction n with
  | zero => exact fun i a m h hm => ⟨muJ_0 hm, h⟩
  | succ n ih =>
    intro i a m h hm
    by_cases e : a.r = 0
    · rw [jr_more e]
      have x := h.sa hr hst x0 x1
      exact ih _ _ _ x.1 (by have := x.2 e; omega)
    · rw [jr_stop e]
      exact ⟨e, h⟩
theorem JB.rb {c : Cfg} (hr : c.Right) {st xa xb : Int} (hst : st = 3 ∨ st = 4) (x0 : 0 ≤ xb) (x1 : xb ≤ 11) {a : Jn} : ∀ (n i : Nat) (b : Jn) (m : Mm), JB c st xa xb m a b → muJ (Q c m) b ≤ n → (jrRun n i b m).2.1.r ≠ 0 ∧ JB c st xa xb (jrRun n i b m).2.2 a (jrRun n i b m).2.1 := by
  intro n
  induction n with
  | zero => exact fun i b m h hm => ⟨muJ_0 hm, h⟩
  | succ n ih =>
    intro i b m h hm
    by_cases e : b.r = 0
    · rw [jr_more e]
      have x := h.sb hr hst x0 x1
      exact ih _ _ _ x.1 (by have := x.2 e; omega)
    · rw [jr_stop e]
      exact ⟨e, h⟩
end Go.Proofs.Ytmliekdbhefpkaa.JoinBothDone
