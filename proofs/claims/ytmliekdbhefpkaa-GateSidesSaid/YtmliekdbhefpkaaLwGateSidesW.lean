/- What 'GateSides' comes to, of any input, from its paths. -/
import Derived.Test.YtmliekdbhefpkaaLwGateSidesV
namespace Go.Proofs.Ytmliekdbhefpkaa.GateSidesDone
open Go Go.Proofs Go.Proofs.Ytmliekdbhefpkaa.Ev Go.Proofs.Ytmliekdbhefpkaa.Ct
open Go.RowKit

theorem HH_eq {sl : Int} (h0 : 0 ≤ sl) (h1 : sl ≤ 11) : HH sl = sl + 1 := by
  unfold HH
  rw [show (0 : Int) + sl = sl by omega, w64_in (n := sl) (by omega) (by omega), w64_in (n := sl + 1) (by omega) (by omega), w_u64 (by omega) (by omega)]
theorem tkO_eq {sl : Int} (h0 : 0 ≤ sl) (h1 : sl ≤ 11) : tkOk (sl + 1) = true := tkOk_iff.2 (by omega)
theorem tkS_eq {sl : Int} (h0 : 0 ≤ sl) (h1 : sl ≤ 11) : tkS (sl + 1) = sl := by
  unfold tkS
  rw [if_pos (tkO_eq h0 h1)]
  omega
theorem tkG_eq {sl : Int} (h0 : 0 ≤ sl) (h1 : sl ≤ 11) : tkG (sl + 1) = 0 := by
  unfold tkG
  rw [if_neg (by omega)]
  omega
theorem ofOk_eq {sl s : Int} (h0 : 0 ≤ sl) (h1 : sl ≤ 11) (h2 : sl < s) : ofOk (sl + 1) s = true := by
  unfold ofOk
  rw [tkO_eq h0 h1, tkS_eq h0 h1, tkG_eq h0 h1, decide_eq_true h2]
  rfl
/-- The word, and what is wanted of it: ahead of the entering's end, ahead of the leaving's, and behind it. -/
def PI : Bool → Bool → Int → Int → Prop
  | false, _, q, want => q / 16777216 = 16 ∧ want = q + 24 * 16777216
  | true, false, q, want => q / 16777216 = 20 ∧ want = q + 20 * 16777216
  | true, true, q, want => q / 16777216 = 40 ∧ want = q
theorem PI.wd {a b : Bool} {q want : Int} (h : PI a b q want) : Wd q ∧ Wd want := by
  unfold PI at h
  split at h <;> (obtain ⟨h1, rfl⟩ := h; exact ⟨⟨by omega, by omega⟩, ⟨by omega, by omega⟩⟩)
theorem PI.poke {a b : Bool} {q want : Int} (h : PI a b q want) (x y : Int) : PI a b (withI q x y) (withI want x y) := by
  have h0 := h.wd.1.1
  cases a with
  | false =>
    obtain ⟨h1, rfl⟩ : q / 16777216 = 16 ∧ want = q + 24 * 16777216 := h
    exact ⟨by rw [withI_hi h0]; exact h1, withI_add _ _ _ _⟩
  | true =>
    cases b with
    | false =>
      obtain ⟨h1, rfl⟩ : q / 16777216 = 20 ∧ want = q + 20 * 16777216 := h
      exact ⟨by rw [withI_hi h0]; exact h1, withI_add _ _ _ _⟩
    | true =>
      obtain ⟨h1, rfl⟩ : q / 16777216 = 40 ∧ want = q := h
      exact ⟨by rw [withI_hi h0]; exact h1, rfl⟩
theorem flt_q {q h : Int} (hG : tkG h = 0) (hq : q / 16777216 = 16) : fltI q h [2] = 0 := by
  have e1 : nuI q 30 32 = 0 := by
    show q / 1073741824 % 4294967296 = 0
    omega
  have e2 : nuI q 27 3 = 2 := by
    show q / 134217728 % 8 = 2
    omega
  have e3 : bitI q 26 = false := by
    show (q / 67108864 % 2 == 1) = false
    rw [beq_eq_false_iff_ne]
    omega
  unfold fltI
  rw [e1, e2, e3, hG]
  rfl
theorem mv_q {q : Int} (hq : q / 16777216 = 16) : mvI q (nuI q 27 3) true = q + 4 * 16777216 := by
  show q / 1073741824 * 1073741824 + (q / 134217728 % 8) % 8 * 134217728 + 67108864 + q % 67108864 = _
  omega
theorem lv_q {q sl : Int} (hq : q / 16777216 = 20) : lvW ⟨sl, q, 5, true, false⟩ = q + 20 * 16777216 := by
  show q / 1073741824 * 1073741824 + 5 % 8 * 134217728 + 0 + q % 67108864 = _
  omega
structure Cl (c : Cfg) (sl : Int) : Prop where
  right : c.Right
  s0 : 0 ≤ sl
  s1 : sl < c.s
  s2 : sl ≤ 11
structure SG (c : Cfg) (sl : Int) (m : Mm) (e : En) (l : Lv) (want : Int) : Prop where
  ok : m.ok
  cc : m.c = c
  wf : WfW m.w
  e1 : e.sl = sl
  e2 : e.h = sl + 1
  e4 : Wd e.s
  l1 : l.sl = sl
  l2 : l.st = 5
  l3 : Wd l.s
  p : PI e.dn l.dn (getW m.w (cellIx c 4 sl)) want
theorem Cl.ix {c : Cfg} {sl : Int} (h : Cl c sl) : 0 ≤ cellIx c 4 sl ∧ cellIx c 4 sl < c.len := ix_slot_rng h.right (.inl rfl) h.s0 h.s1
theorem Cl.of {c : Cfg} {sl : Int} (h : Cl c sl) : ofOk (sl + 1) c.s = true := ofOk_eq h.s0 h.s2 h.s1
theorem Cl.wdh {c : Cfg} {sl : Int} (h : Cl c sl) : Wd (sl + 1) := by
  have := h.s0
  have := h.s2
  constructor <;> omega
theorem SG.good {c : Cfg} {sl : Int} (hc : Cl c sl) {m : Mm} {e : En} {l : Lv} {want : Int} (h : SG c sl m e l want) : enGood (e.wi R2) m ∧ lGood l m :=
  ⟨⟨h.ok, h.wf, h.e4, by show Wd e.h; rw [h.e2]; exact hc.wdh, by show 1 ≤ 1000; decide⟩, h.ok, h.wf, h.l3⟩
theorem SG.start {c : Cfg} {sl : Int} (h : Cl c sl) : SG c sl (M0 c sl) (e0 sl) (l0 sl) (nwI 5 0) := by
  have o0 := nwM_ok h.right
  have hz := zW_len h.right
  have zf : WfW (zW c) := fun x hx => by
    unfold zW at hx
    rw [List.eq_of_mem_replicate hx]
    decide
  have wz : Wd 0 := by constructor <;> decide
  have e4 : getW (M0 c sl).w (cellIx c 4 sl) = nwI 2 0 := getW_set_same h.ix.1 (by show _ < ((zW c).length : Int); rw [hz]; exact h.ix.2)
  refine ⟨acc_ok o0 (setW_len _ _ _), rfl, zf.setW _ (by decide) (by decide), ?_, ?_, wz, rfl, rfl, wz, ?_⟩
  · show tkS (HH sl) = sl
    rw [HH_eq h.s0 h.s2, tkS_eq h.s0 h.s2]
  · exact HH_eq h.s0 h.s2
  · rw [e4]
    exact ⟨by decide, by decide⟩
theorem SG.poke {c : Cfg} {sl : Int} (hc : Cl c sl) {m : Mm} {e : En} {l : Lv} {want : Int} (h : SG c sl m e l want) (x : Int) : SG c sl (mP sl x m) e l (withI want (xs x) (xb x)) := by
  obtain ⟨ho, rfl, hw, a1, a2, a4, b1, b2, b3, hp⟩ := h
  have o1 : (mLd m 4 sl).ok := acc_ok ho rfl
  have hl : (m.w.length : Int) = m.c.len := ho.2
  have e4 : getW (mP sl x m).w (cellIx m.c 4 sl) = withI (vS sl m) (xs x) (xb x) := getW_set_same hc.ix.1 (by show _ < (m.w.length : Int); rw [hl]; exact hc.ix.2)
  refine ⟨acc_ok o1 (setW_len _ _ _), rfl, ?_, a1, a2, a4, b1, b2, b3, ?_⟩
  · have := withI_rng hp.wd.1 (xs x) (xb x)
    exact hw.setW _ this.1 this.2
  · rw [e4]
    exact hp.poke _ _
/-- A step of the entering. -/
theorem SG.enter {c : Cfg} {sl : Int} (hc : Cl c sl) {m : Mm} {e : En} {l : Lv} {want : Int} (h : SG c sl m e l want) (hl : l.dn = false) (hd : e.dn = false) :
    SG c sl (enMe (e.wi R2) m) (enSt (e.wi R2) m) l want := by
  have hg := (h.good hc).1
  have q1 := enMe_ok hg
  have q2 := enSt_s hg
  obtain ⟨ho, rfl, hw, a1, a2, a4, b1, b2, b3, hp⟩ := h
  have hO : ofOk e.h m.c.s = true := by rw [a2]; exact hc.of
  rw [hd] at hp
  obtain ⟨hq, hwant⟩ : getW m.w (cellIx m.c 4 sl) / 16777216 = 16 ∧ want = getW m.w (cellIx m.c 4 sl) + 24 * 16777216 := hp
  have hlen : (m.w.length : Int) = m.c.len := ho.2
  obtain ⟨esl, es, eh, er, etk, edn, eno, ewd⟩ := e
  simp only at a1 a2 a4 hd hO
  subst a1 a2 hd
  have F := flt_q (tkG_eq hc.s0 hc.s2) hq
  cases etk with
  | false =>
    have e1 : enSt (En.wi ⟨esl, es, esl + 1, er, false, false, eno, ewd⟩ R2) m = ⟨esl, getW m.w (cellIx m.c 4 esl), esl + 1, R2, true, false, 0, ewd⟩ := by
      refine (en_look hO).1.trans ?_
      rw [show R2.l = [2] from rfl, F]
      rfl
    have e2 : enMe (En.wi ⟨esl, es, esl + 1, er, false, false, eno, ewd⟩ R2) m = mLd m 4 esl := by
      refine (?_ : _ = _)
      unfold enMe
      simp only [En.wi, hO, Bool.false_eq_true, if_false, if_true]
    refine ⟨q1.1, q1.2.1, q1.2.2, by rw [e1], by rw [e1], q2.1, b1, b2, b3, ?_⟩
    rw [e1, e2]
    exact ⟨hq, hwant⟩
  | true =>
    have e1 : enSt (En.wi ⟨esl, es, esl + 1, er, true, false, eno, ewd⟩ R2) m = ⟨esl, es, esl + 1, R2, false, dnS m 4 esl es, eno, if dnS m 4 esl es = true then mvI es (nuI es 27 3) true else ewd⟩ := (en_swap hO).1
    have e2 : enMe (En.wi ⟨esl, es, esl + 1, er, true, false, eno, ewd⟩ R2) m = mSw m 4 esl es (mvI es (nuI es 27 3) true) := by
      unfold enMe
      simp only [En.wi, hO, Bool.false_eq_true, if_false, if_true]
    refine ⟨q1.1, q1.2.1, q1.2.2, by rw [e1], by rw [e1], q2.1, b1, b2, b3, ?_⟩
    rw [e1, e2, hl]
    by_cases hs : getW m.w (cellIx m.c 4 esl) = es
    · rw [dnS_hit hc.ix.1 hs]
      show PI true false (getW (swpW m.w (cellIx m.c 4 esl) es (mvI es (nuI es 27 3) true)) (cellIx m.c 4 esl)) want
      rw [swpW_hit hs, getW_set_same hc.ix.1 (by rw [hlen]; exact hc.ix.2), ← hs, mv_q hq]
      exact ⟨by omega, by omega⟩
    · rw [dnS_miss hs]
      show PI false false (getW (swpW m.w (cellIx m.c 4 esl) es (mvI es (nuI es 27 3) true)) (cellIx m.c 4 esl)) want
      rw [swpW_miss hs]
      exact ⟨hq, hwant⟩
/-- A step of the leaving. -/
theorem SG.leave {c : Cfg} {sl : Int} (hc : Cl c sl) {m : Mm} {e : En} {l : Lv} {want : Int} (h : SG c sl m e l want) (hl : l.dn = false) (hd : e.dn = true) :
    SG c sl (lMe l m) e (lSt l m) want := by
  have hg := (h.good hc).2
  have q1 := lMe_ok hg
  have q2 := lSt_s hg
  obtain ⟨ho, rfl, hw, a1, a2, a4, b1, b2, b3, hp⟩ := h
  rw [hd, hl] at hp
  obtain ⟨hq, hwant⟩ : getW m.w (cellIx m.c 4 sl) / 16777216 = 20 ∧ want = getW m.w (cellIx m.c 4 sl) + 20 * 16777216 := hp
  have hlen : (m.w.length : Int) = m.c.len := ho.2
  obtain ⟨lsl, ls, lst, llk, ldn⟩ := l
  simp only at b1 b2 b3 hl
  subst b1 b2 hl
  cases llk with
  | false =>
    have e1 : lSt ⟨lsl, ls, 5, false, false⟩ m = ⟨lsl, getW m.w (cellIx m.c 4 lsl), 5, true, false⟩ := rfl
    have e2 : lMe ⟨lsl, ls, 5, false, false⟩ m = mLd m 4 lsl := rfl
    refine ⟨q1.1, q1.2.1, q1.2.2, a1, a2, a4, rfl, rfl, q2, ?_⟩
    rw [e1, e2, hd]
    exact ⟨hq, hwant⟩
  | true =>
    have e1 : lSt ⟨lsl, ls, 5, true, false⟩ m = ⟨lsl, ls, 5, false, dnS m 4 lsl ls⟩ := rfl
    have e2 : lMe ⟨lsl, ls, 5, true, false⟩ m = mSw m 4 lsl ls (lvW ⟨lsl, ls, 5, true, false⟩) := rfl
    refine ⟨q1.1, q1.2.1, q1.2.2, a1, a2, a4, rfl, rfl, q2, ?_⟩
    rw [e1, e2, hd]
    by_cases hs : getW m.w (cellIx m.c 4 lsl) = ls
    · rw [dnS_hit hc.ix.1 hs]
      show PI true true (getW (swpW m.w (cellIx m.c 4 lsl) ls (lvW ⟨lsl, ls, 5, true, false⟩)) (cellIx m.c 4 lsl)) want
      rw [swpW_hit hs, getW_set_same hc.ix.1 (by rw [hlen]; exact hc.ix.2), ← hs, lv_q hq]
      exact ⟨by omega, by omega⟩
    · rw [dnS_miss hs]
      show PI true false (getW (swpW m.w (cellIx m.c 4 lsl) ls (lvW ⟨lsl, ls, 5, true, false⟩)) (cellIx m.c 4 lsl)) want
      rw [swpW_miss hs]
      exact ⟨hq, hwant⟩
/-- How many steps are left, alone. -/
def muE (q : Int) (e : En) : Nat := if e.dn = true then 0 else if e.tk = true then (if q = e.s then 1 else 3) else 2
def muL (q : Int) (l : Lv) : Nat := if l.dn = true then 0 else if l.lk = true then (if q = l.s then 1 else 3) else 2
theorem muE_le (q : Int) (e : En) : muE q e ≤ 3 := by unfold muE; split <;> (try split) <;> (try split) <;> omega
theorem muL_le (q : Int) (l : Lv) : muL q l ≤ 3 := by unfold muL; split <;> (try split) <;> (try split) <;> omega
theorem wi_wi (e : En) (h : e.st = R2) : e.wi R2 = e := by
  obtain ⟨esl, es, eh, er, etk, edn, eno, ewd⟩ := e
  simp only at h
  subst h
  rfl
theorem muE_step {c : Cfg} {sl : Int} (hc : Cl c sl) {m : Mm} {e : En} {l : Lv} {want : Int} (h : SG c sl m e l want) (hd : e.dn = false) :
    muE (getW (enMe (e.wi R2) m).w (cellIx c 4 sl)) (enSt (e.wi R2) m) < muE (getW m.w (cellIx c 4 sl)) e := by
  obtain ⟨ho, rfl, hw, a1, a2, a4, b1, b2, b3, hp⟩ := h
  have hO : ofOk e.h m.c.s = true := by rw [a2]; exact hc.of
  rw [hd] at hp
  obtain ⟨hq, _⟩ : getW m.w (cellIx m.c 4 sl) / 16777216 = 16 ∧ want = getW m.w (cellIx m.c 4 sl) + 24 * 16777216 := hp
  obtain ⟨esl, es, eh, er, etk, edn, eno, ewd⟩ := e
  simp only at a1 a2 a4 hd hO
  subst a1 a2 hd
  have F := flt_q (tkG_eq hc.s0 hc.s2) hq
  cases etk with
  | false =>
    have e1 : enSt (En.wi ⟨esl, es, esl + 1, er, false, false, eno, ewd⟩ R2) m = ⟨esl, getW m.w (cellIx m.c 4 esl), esl + 1, R2, true, false, 0, ewd⟩ := by
      refine (en_look hO).1.trans ?_
      rw [show R2.l = [2] from rfl, F]
      rfl
    have e2 : enMe (En.wi ⟨esl, es, esl + 1, er, false, false, eno, ewd⟩ R2) m = mLd m 4 esl := by
      unfold enMe
      simp only [En.wi, hO, Bool.false_eq_true, if_false, if_true]
    rw [e1, e2]
    show (if getW m.w (cellIx m.c 4 esl) = getW m.w (cellIx m.c 4 esl) then 1 else 3 : Nat) < 2
    rw [if_pos rfl]
    omega
  | true =>
    have e1 : enSt (En.wi ⟨esl, es, esl + 1, er, true, false, eno, ewd⟩ R2) m = ⟨esl, es, esl + 1, R2, false, dnS m 4 esl es, eno, if dnS m 4 esl es = true then mvI es (nuI es 27 3) true else ewd⟩ := (en_swap hO).1
    rw [e1]
    show muE _ _ < (if getW m.w (cellIx m.c 4 esl) = es then 1 else 3 : Nat)
    by_cases hs : getW m.w (cellIx m.c 4 esl) = es
    · rw [dnS_hit hc.ix.1 hs, if_pos hs]
      show 0 < 1
      omega
    · rw [dnS_miss hs, if_neg hs]
      show 2 < 3
      omega
theorem muL_step {c : Cfg} {sl : Int} (hc : Cl c sl) {m : Mm} {e : En} {l : Lv} {want : Int} (h : SG c sl m e l want) (hl : l.dn = false) :
    muL (getW (lMe l m).w (cellIx c 4 sl)) (lSt l m) < muL (getW m.w (cellIx c 4 sl)) l := by
  obtain ⟨ho, rfl, hw, a1, a2, a4, b1, b2, b3, hp⟩ := h
  obtain ⟨lsl, ls, lst, llk, ldn⟩ := l
  simp only at b1 b2 b3 hl
  subst b1 b2 hl
  cases llk with
  | false =>
    show (if getW m.w (cellIx m.c 4 lsl) = getW m.w (cellIx m.c 4 lsl) then 1 else 3 : Nat) < 2
    rw [if_pos rfl]
    omega
  | true =>
    have e1 : lSt ⟨lsl, ls, 5, true, false⟩ m = ⟨lsl, ls, 5, false, dnS m 4 lsl ls⟩ := rfl
    rw [e1]
    show muL _ _ < (if getW m.w (cellIx m.c 4 lsl) = ls then 1 else 3 : Nat)
    by_cases hs : getW m.w (cellIx m.c 4 lsl) = ls
    · rw [dnS_hit hc.ix.1 hs, if_pos hs]
      show 0 < 1
      omega
    · rw [dnS_miss hs, if_neg hs]
      show 2 < 3
      omega
theorem SG.run {c : Cfg} {sl : Int} (hc : Cl c sl) {want : Int} {l : Lv} (hl : l.dn = false) : ∀ (n i : Nat) (e : En) (m : Mm), SG c sl m e l want → e.st = R2 → muE (getW m.w (cellIx c 4 sl)) e ≤ n → (enRun n i e m).2.1.dn = true ∧ SG c sl (enRun n i e m).2.2 (enRun n i e m).2.1 l want := by
  intro n
  induction n with
  | zero =>
    intro i e m h _ hm
    refine ⟨?_, h⟩
    unfold muE at hm
    cases hd : e.dn with
    | true => exact hd
    | false =>
      rw [hd] at hm
      simp only [Bool.false_eq_true, if_false] at hm
      split at hm
      · split at hm <;> omega
      · omega
  | succ n ih =>
    intro i e m h hs hm
    cases hd : e.dn with
    | true =>
      rw [en_stop (by rw [hd]; rfl)]
      exact ⟨hd, h⟩
    | false =>
      have hO : ofOk e.h m.c.s = true := by rw [h.e2, h.cc]; exact hc.of
      rw [en_more (by rw [hd, hO]; rfl)]
      have x1 := h.enter hc hl hd
      have x2 := muE_step hc h hd
      rw [wi_wi e hs] at x1 x2
      exact ih _ _ _ x1 (by rw [enSt_st]; exact hs) (by omega)
theorem SG.done {c : Cfg} {sl : Int} (hc : Cl c sl) {want : Int} {e : En} (hd : e.dn = true) : ∀ (n i : Nat) (l : Lv) (m : Mm), SG c sl m e l want → muL (getW m.w (cellIx c 4 sl)) l ≤ n → (lvRun n i l m).2.1.dn = true ∧ SG c sl (lvRun n i l m).2.2 e (lvRun n i l m).2.1 want := by
  intro n
  induction n with
  | zero =>
    intro i l m h hm
    refine ⟨?_, h⟩
    unfold muL at hm
    cases hl : l.dn with
    | true => exact hl
    | false =>
      rw [hl] at hm
      simp only [Bool.false_eq_true, if_false] at hm
      split at hm
      · split at hm <;> omega
      · omega
  | succ n ih =>
    intro i l m h hm
    cases hl : l.dn with
    | true =>
      rw [lv_stop hl]
      exact ⟨hl, h⟩
    | false =>
      rw [lv_more hl]
      have x2 := muL_step hc h hl
      exact ih _ _ _ (h.leave hc hl hd) (by omega)
theorem z1 {tl : List Nat} : ∀ k, k < 1 → (0 :: tl : List Nat).getD k 0 = k := fun k hk => by
  match k, hk with
  | 0, _ => rfl
theorem big_orI (ik : Ik) : (∃ of2 cap2 L, ik = .row of2 cap2 L ∧ 30 < L.length) ∨ ((∀ p ∈ big ik, p) ∧ ik.len ≤ 30) := by
  cases ik with
  | nil => exact .inr ⟨pcs_of trivial, Nat.zero_le _⟩
  | row of2 cap2 L =>
    by_cases h : L.length ≤ 30
    · exact .inr ⟨pcs_of ⟨decide_eq_false (by omega), trivial⟩, h⟩
    · exact .inl ⟨of2, cap2, L, rfl, by omega⟩
theorem fr_wi (ik : Ik) (sl : Int) (m : Mm) (e : En) (l : Lv) (want i : Int) (ds : List Dec) : fr ik sl m e l want i ds = fr ik sl m (e.wi R2) l want i ds := rfl
open Dec in
theorem main (c : Cfg) (sl : Int) (ik : Ik) (hr : c.Right) : CallC Try.prog fid (A c sl ik) (iHp ik) (.bool true) (iHp ik) := by
  by_cases w0 : sl < 0
  · exact CallC.of_call Eg10nok (g_0 c sl ik) (pcs_of ⟨hr, decide_eq_true w0, trivial⟩) rfl z1
  by_cases w1 : sl > 11
  · exact CallC.of_call Eg10nok (g_1 c sl ik) (pcs_of ⟨hr, decide_eq_false w0, decide_eq_true w1, trivial⟩) rfl z1
  by_cases w2 : sl ≥ c.s
  · exact CallC.of_call Eg10nok (g_2 c sl ik) (pcs_of ⟨hr, decide_eq_false w0, decide_eq_false w1, decide_eq_true w2, trivial⟩) rfl z1
  rcases big_orI ik with ⟨of2, cap2, L, rfl, hb⟩ | ⟨hb, hl⟩
  · exact CallC.of_call Eg10nok (g_big c sl of2 cap2 L) (pcs_of ⟨hr, decide_eq_false w0, decide_eq_false w1, decide_eq_false w2, decide_eq_true (by omega), trivial⟩) rfl z1
  have hc : Cl c sl := ⟨hr, by omega, by omega, by omega⟩
  have o0 := nwM_ok hr
  have wdH : Wd (HH sl) := by rw [HH_eq hc.s0 hc.s2]; exact hc.wdh
  refine CallC.of_body (E := Eg10n) (ds := []) (fn := fn) 129 (by kernel_rfl) (by kernel_rfl) (by kernel_rfl) (by kernel_rfl) ?_
  refine KC.of_exec (fr := start c sl ik [f, f, Dec.l, Dec.l, Dec.l, Dec.l, Dec.l, f, dsB ik, Dec.l, Dec.l, Dec.l]) Eg10nok (g_in c sl ik) (pcs_app (pcs_of ⟨hr, decide_eq_false w0, decide_eq_false w1, decide_eq_false w2, trivial⟩) (pcs_app hb (pcs_of ⟨⟨by decide, by decide, by decide, by decide⟩, o0, by decide, by decide, wdH, ⟨by decide, by decide, by decide, by decide⟩, trivial⟩))) (Nat.le_refl _) z1 ?_
  refine KC.loop (m0 := 1) (ι := Nat × Mm × En × Lv × Int) (fun x => fr ik sl x.2.1 x.2.2.1 x.2.2.2.1 x.2.2.2.2 (x.1 : Int) []) (fun x => x.1 ≤ ik.len ∧ SG c sl x.2.1 x.2.2.1 x.2.2.2.1 x.2.2.2.2 ∧ x.2.2.2.1.dn = false) (fun x => ik.len - x.1)
    (fun ex fr => ex = .exit 0 ∧ ∃ m e l want, SG c sl m e l want ∧ (l.dn = true → e.dn = true) ∧ fr = frM ik sl m e l want []) (fun x hx => ?_) ?_ (0, M0 c sl, e0 sl, l0 sl, nwI 5 0) ⟨Nat.zero_le _, SG.start hc, rfl⟩
  · obtain ⟨i, m, e, l, want⟩ := x
    obtain ⟨hi, hI, hld⟩ := hx
    simp only at hi hI hld ⊢
    by_cases hlt : i < ik.len
    · cases ik with
      | nil => exact absurd hlt (Nat.not_lt_zero _)
      | row of2 cap2 L =>
        have hlt' : i < L.length := hlt
        have hl' : L.length ≤ 30 := hl
        obtain ⟨hw1, hw2⟩ := hI.p.wd
        have hv : vS sl m = getW m.w (cellIx c 4 sl) := by unfold vS; rw [hI.cc]
        have wdh : Wd e.h := by rw [hI.e2]; exact hc.wdh
        have hd : ∀ p ∈ rd sl m e want i of2 L, p := pcs_of ⟨decide_eq_true (by omega), by omega, by omega, by rw [addN_eq]; omega, by rw [jv_eq]; exact hlt', by omega, hI.ok, by rw [hv]; exact hw1, acc_ok hI.ok rfl, hw2, rfl, ⟨rfl, wdh⟩, trivial⟩
        have hP := hI.poke hc (L.getD (jv of2 i) 0)
        have hO : ofOk e.h (mI sl m of2 L i).c.s = true := by rw [hP.e2, hP.cc]; exact hc.of
        have hg := hP.good hc
        cases hed : e.dn with
        | false =>
          have hq : (!(e.dn || !ofOk e.h (mI sl m of2 L i).c.s)) = true := by rw [hed, hO]; rfl
          exact CodeC.of_run (fr := fr (.row of2 cap2 L) sl m e l want (i : Int) [t, t, f]) Eg10nok (b_e sl m e l want i of2 cap2 L) (pcs_app hd (pcs_of ⟨hq, rfl, ⟨rfl, hg.1⟩, hld, trivial⟩)) (show 1 ≤ 7 by omega) z1
            (.inl ⟨rfl, (i + 1, enMe (e.wi R2) (mI sl m of2 L i), enSt (e.wi R2) (mI sl m of2 L i), l, wI want of2 L i), by rw [w64_succ i (by omega)], ⟨hlt, hP.enter hc hld hed, hld⟩, by simp only; omega⟩)
        | true =>
          have hq : (!(e.dn || !ofOk e.h (mI sl m of2 L i).c.s)) = false := by rw [hed]; rfl
          have hL := hP.leave hc hld hed
          cases hx : (lSt l (mI sl m of2 L i)).dn with
          | false =>
            exact CodeC.of_run (fr := fr (.row of2 cap2 L) sl m e l want (i : Int) [t, f, f]) Eg10nok (b_l sl m e l want i of2 cap2 L) (pcs_app hd (pcs_of ⟨hq, ⟨rfl, hg.2⟩, hx, trivial⟩)) (show 1 ≤ 7 by omega) z1
              (.inl ⟨rfl, (i + 1, lMe l (mI sl m of2 L i), e, lSt l (mI sl m of2 L i), wI want of2 L i), by rw [w64_succ i (by omega)], ⟨hlt, hL, hx⟩, by simp only; omega⟩)
          | true =>
            exact CodeC.of_run (fr := fr (.row of2 cap2 L) sl m e l want (i : Int) [t, f, t]) Eg10nok (b_x sl m e l want i of2 cap2 L) (pcs_app hd (pcs_of ⟨hq, ⟨rfl, hg.2⟩, hx, trivial⟩)) (show 1 ≤ 7 by omega) z1
              (.inr ⟨by simp, rfl, lMe l (mI sl m of2 L i), e, lSt l (mI sl m of2 L i), wI want of2 L i, hL, fun _ => hed, rfl⟩)
    · exact CodeC.of_run (fr := fr ik sl m e l want (i : Int) [f]) Eg10nok (b_0 sl ik m e l want i) (pcs_of ⟨decide_eq_false (by omega), trivial⟩) (show 1 ≤ 7 by omega) z1 (.inr ⟨by simp, rfl, m, e, l, want, hI, fun h => absurd (hld.symm.trans h) (by decide), rfl⟩)
  rintro ex fr ⟨rfl, m, e, l, want, hI, hle, rfl⟩
  have hg := hI.good hc
  have hI2 : SG c sl m (e.wi R2) l want := ⟨hI.ok, hI.cc, hI.wf, hI.e1, hI.e2, hI.e4, hI.l1, hI.l2, hI.l3, hI.p⟩
  have rE : (RE e m).2.1.dn = true ∧ SG c sl (RE e m).2.2 (RE e m).2.1 l want := by
    cases hx : l.dn with
    | true =>
      have hed : (e.wi R2).dn = true := hle hx
      unfold RE
      rw [en_stop (by rw [hed]; rfl)]
      exact ⟨hed, hI2⟩
    | false => exact SG.run hc hx 20 0 (e.wi R2) m hI2 rfl (by have := muE_le (getW m.w (cellIx c 4 sl)) (e.wi R2); omega)
  have gL := (rE.2.good hc).2
  have rL := SG.done hc rE.1 20 0 l (RE e m).2.2 rE.2 (by have := muL_le (getW (RE e m).2.2.w (cellIx c 4 sl)) l; omega)
  have fin : PI (RE e m).2.1.dn (RL e l m).2.1.dn (getW (RL e l m).2.2.w (cellIx c 4 sl)) want := rL.2.p
  have eq : (getW (RL e l m).2.2.w (cellIx (RL e l m).2.2.c 4 sl) == want) = true := by
    rw [rE.1, show (RL e l m).2.1.dn = true from rL.1] at fin
    rw [show (RL e l m).2.2.c = c from rL.2.cc]
    exact beq_iff_eq.2 fin.2.symm
  have wdh : Wd (RE e m).2.1.h := by rw [rE.2.e2]; exact hc.wdh
  have T : ∀ {g : Prop}, g → T20 g := fun hg => ⟨rfl, by decide, hg⟩
  refine KC.of_exec (fr := frM ik sl m e l want [Dec.l, t, t]) Eg10nok (g_out sl ik m e l want) (pcs_of ⟨rfl, T hg.1, T gL, rfl, ⟨rfl, wdh⟩, by rw [rE.1]; rfl, rL.1, rL.2.ok, trivial⟩) (show 1 ≤ 7 by omega) z1 ?_
  rw [eq]
  refine KC.done ?_
  cases ik with
  | nil => exact ⟨by simp, [.bool true], [], [0], 1, by kernel_rfl, by simp, by kernel_rfl, rfl, z1⟩
  | row of2 cap2 L => exact ⟨by simp, [.bool true], [], [0], 1, by kernel_rfl, by simp, by kernel_rfl, rfl, z1⟩
theorem walk (c : Cfg) (sl : Int) (v : Value) (L : List Int) (w : World) (_ : (Lit.int .i64 sl).wf = true) (hl : RowIn .i64 w v L) :
    Calls Try.prog fid #[c.v, .int .i64 sl, v] w fun e w1 => e = .returned (.bool true) ∧ Below w.heap.size w w1 := by
  by_cases hr : c.Right
  · rcases hl with ⟨rfl, rfl⟩ | ⟨b, off, cap, rfl, hcell, _, hblk⟩
    · have hargs : VRL (fun k => k < 1) (fun _ => 0) (A c sl .nil) [c.v, .int .i64 sl, .slice none 0 0] := fun ρ' ha => by
        simp [A, Ik.sv, Cfg.ren_v, ren]
      exact calls_of_C (main c sl .nil hr) rfl none_isV hargs (HR_none _ 1)
    · have hargs : VRL (fun k => k < 1) (fun _ => b) (A c sl (.row off cap L)) [c.v, .int .i64 sl, .slice (some ⟨b, off, none⟩) L.length cap] := fun ρ' ha => by
        have e0 : ρ' 0 = b := ha 0 (by omega)
        simp [A, Ik.sv, Cfg.ren_v, ren, e0]
      exact calls_of_C (main c sl (.row off cap L) hr) rfl view_isV hargs (HR_row2 (ρ := fun _ => b) Nat.zero_lt_one hcell hblk)
  · obtain ⟨ik, b, hv⟩ : ∃ (ik : Ik) (b : Nat), ∀ ρ' : Nat → Nat, ρ' 0 = b → ren ρ' (ik.sv 0) = v := by
      rcases hl with ⟨rfl, rfl⟩ | ⟨b, off, cap, rfl, _, _⟩
      · exact ⟨.nil, 0, fun _ _ => rfl⟩
      · exact ⟨.row off cap L, b, fun ρ' h => by simp [Ik.sv, ren, h]⟩
    have hargs : VRL (fun k => k < 1) (fun _ => b) (A c sl ik) [c.v, .int .i64 sl, v] := fun ρ' ha => by
      have e0 : ρ' 0 = b := ha 0 (by omega)
      simp only [A, List.map_cons, List.map_nil, Cfg.ren_v, ren_int, hv ρ' e0]
    have hz : c.len = 0 := if_neg hr
    have q : (c.len == 0) = true := by rw [hz]; rfl
    by_cases w0 : sl < 0
    · exact true_of_path Eg10aok (p_n0 c sl ik) (pcs_of ⟨by omega, by omega, by omega, q, decide_eq_true w0, trivial⟩) none_isV hargs (HR_none _ 1)
    by_cases w1 : sl > 11
    · exact true_of_path Eg10aok (p_n1 c sl ik) (pcs_of ⟨by omega, by omega, by omega, q, decide_eq_false w0, decide_eq_true w1, trivial⟩) none_isV hargs (HR_none _ 1)
    exact true_of_path Eg10aok (p_n2 c sl ik) (pcs_of ⟨by omega, by omega, by omega, q, decide_eq_false w0, decide_eq_false w1, trivial⟩) none_isV hargs (HR_none _ 1)
end Go.Proofs.Ytmliekdbhefpkaa.GateSidesDone
