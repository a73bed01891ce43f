/- What 'GateTwo' comes to, of any input, from its paths. -/
import Derived.Test.YtmliekdbhefpkaaLwGateTwoV
namespace Go.Proofs.Ytmliekdbhefpkaa.GateTwoDone
open Go Go.Proofs Go.Proofs.Ytmliekdbhefpkaa.Ev Go.Proofs.Ytmliekdbhefpkaa.Ct
open Go.RowKit

theorem HH_eq {sl : Int} (h0 : 0 ≤ sl) (h1 : sl ≤ 11) : HH sl = sl + 1 := by
  unfold HH
  rw [show (0 : Int) + sl = sl by omega, w64_in (n := sl) (by omega) (by omega), w64_in (n := sl + 1) (by omega) (by omega), w_u64 (by omega) (by omega)]
theorem tkO_eq {sl : Int} (h0 : 0 ≤ sl) (h1 : sl ≤ 11) : tkOk (sl + 1) = true := tkOk_iff.2 (by omega)
theorem tkS_eq {sl : Int} (h0 : 0 ≤ sl) (h1 : sl ≤ 11) : tkS (sl + 1) = sl := by
  unfold tkS
  rw [if_pos (tkO_eq h0 h1)]
  omega
theorem tkG_eq {sl : Int} (h0 : 0 ≤ sl) (h1 : sl ≤ 11) : tkG (sl + 1) = 0 := by
  unfold tkG
  rw [if_neg (by omega)]
  omega
theorem ofOk_eq {sl s : Int} (h0 : 0 ≤ sl) (h1 : sl ≤ 11) (h2 : sl < s) : ofOk (sl + 1) s = true := by
  unfold ofOk
  rw [tkO_eq h0 h1, tkS_eq h0 h1, tkG_eq h0 h1, decide_eq_true h2]
  rfl
structure Cl (c : Cfg) (sl : Int) : Prop where
  right : c.Right
  s0 : 0 ≤ sl
  s1 : sl < c.s
  s2 : sl ≤ 11
theorem Cl.ix {c : Cfg} {sl : Int} (h : Cl c sl) : 0 ≤ cellIx c 4 sl ∧ cellIx c 4 sl < c.len := ix_slot_rng h.right (.inl rfl) h.s0 h.s1
theorem Cl.of {c : Cfg} {sl : Int} (h : Cl c sl) : ofOk (sl + 1) c.s = true := ofOk_eq h.s0 h.s2 h.s1
theorem Cl.wdh {c : Cfg} {sl : Int} (h : Cl c sl) : Wd (sl + 1) := by
  have := h.s0
  have := h.s2
  constructor <;> omega
/-- Active; and busy. -/
abbrev wA : Int := 268435456
abbrev wB : Int := 335544320
theorem flt_A {h : Int} {l : List Int} (hG : tkG h = 0) (hl : inB l 2 = true) : fltI wA h l = 0 := by
  unfold fltI
  rw [hG, show nuI wA 30 32 = 0 from rfl, show nuI wA 27 3 = 2 from rfl, show bitI wA 26 = false from rfl, hl]
  rfl
theorem flt_B {h : Int} {l : List Int} (hG : tkG h = 0) : fltI wB h l = 3 := by
  unfold fltI
  rw [hG, show nuI wB 30 32 = 0 from rfl, show nuI wB 27 3 = 2 from rfl, show bitI wB 26 = true from rfl]
  rfl
theorem mv_A : mvI wA (nuI wA 27 3) true = wB := rfl
/-- On its way; entered; and told that it is busy. -/
def P (e : En) : Prop := e.dn = false ∧ (e.tk = true → e.s = wA ∧ e.no = 0)
def W (e : En) : Prop := e.dn = true ∧ e.no = 0
def F (e : En) : Prop := e.dn = true ∧ e.no = 3
def Inv (q : Int) (a b : En) : Prop := (q = wA ∧ P a ∧ P b) ∨ (q = wB ∧ ((W a ∧ (P b ∨ F b)) ∨ (W b ∧ (P a ∨ F a))))
theorem Inv.symm {q : Int} {a b : En} (h : Inv q a b) : Inv q b a := by
  rcases h with ⟨h1, h2, h3⟩ | ⟨h1, h2⟩
  · exact .inl ⟨h1, h3, h2⟩
  · exact .inr ⟨h1, h2.symm⟩
structure TG (c : Cfg) (sl : Int) (m : Mm) (a b : En) : Prop where
  ok : m.ok
  cc : m.c = c
  wf : WfW m.w
  a1 : a.sl = sl
  a2 : a.h = sl + 1
  a3 : Wd a.s
  b1 : b.sl = sl
  b2 : b.h = sl + 1
  b3 : Wd b.s
  p : Inv (getW m.w (cellIx c 4 sl)) a b
theorem TG.symm {c : Cfg} {sl : Int} {m : Mm} {a b : En} (h : TG c sl m a b) : TG c sl m b a := ⟨h.ok, h.cc, h.wf, h.b1, h.b2, h.b3, h.a1, h.a2, h.a3, h.p.symm⟩
theorem TG.wi {c : Cfg} {sl : Int} {m : Mm} {a b : En} (h : TG c sl m a b) (r : Rw) : TG c sl m (a.wi r) b := ⟨h.ok, h.cc, h.wf, h.a1, h.a2, h.a3, h.b1, h.b2, h.b3, h.p⟩
theorem TG.good {c : Cfg} {sl : Int} (hc : Cl c sl) {m : Mm} {a b : En} (h : TG c sl m a b) {r : Rw} (hr : r.l.length ≤ 1000) : enGood (a.wi r) m :=
  ⟨h.ok, h.wf, h.a3, by show Wd a.h; rw [h.a2]; exact hc.wdh, hr⟩
theorem TG.start {c : Cfg} {sl : Int} (h : Cl c sl) : TG c sl (M0 c sl) (e0 sl R2) (e0 sl R3) := by
  have o0 := nwM_ok h.right
  have hz := zW_len h.right
  have zf : WfW (zW c) := fun x hx => by
    unfold zW at hx
    rw [List.eq_of_mem_replicate hx]
    decide
  have wz : Wd 0 := by constructor <;> decide
  have e4 : getW (M0 c sl).w (cellIx c 4 sl) = wA := getW_set_same h.ix.1 (by show _ < ((zW c).length : Int); rw [hz]; exact h.ix.2)
  have hs : tkS (HH sl) = sl := by rw [HH_eq h.s0 h.s2, tkS_eq h.s0 h.s2]
  exact ⟨acc_ok o0 (setW_len _ _ _), rfl, zf.setW _ (by decide) (by decide), hs, HH_eq h.s0 h.s2, wz, hs, HH_eq h.s0 h.s2, wz, .inl ⟨e4, ⟨rfl, fun h => by cases h⟩, ⟨rfl, fun h => by cases h⟩⟩⟩
def mu (q : Int) (e : En) : Nat := if e.dn = true then 0 else if q = wA then (if e.tk = true then 1 else 2) else (if e.tk = true then 2 else 1)
theorem mu_le (q : Int) (e : En) : mu q e ≤ 2 := by unfold mu; split <;> (try split) <;> (try split) <;> omega
theorem wi_wi (e : En) {r : Rw} (h : e.st = r) : e.wi r = e := by
  obtain ⟨esl, es, eh, er, etk, edn, eno, ewd⟩ := e
  simp only at h
  subst h
  rfl
theorem AB : wA ≠ wB := by decide
/-- A step of one of the two. -/
theorem TG.step {c : Cfg} {sl : Int} (hc : Cl c sl) {m : Mm} {a b : En} {r : Rw} (hr : r.l.length ≤ 1000) (hl : inB r.l 2 = true) (h : TG c sl m a b) (hd : a.dn = false) :
    TG c sl (enMe (a.wi r) m) (enSt (a.wi r) m) b ∧ mu (getW (enMe (a.wi r) m).w (cellIx c 4 sl)) (enSt (a.wi r) m) < mu (getW m.w (cellIx c 4 sl)) a := by
  have hg := h.good hc hr
  have q1 := enMe_ok hg
  have q2 := enSt_s hg
  obtain ⟨ho, rfl, hw, a1, a2, a3, b1, b2, b3, hp⟩ := h
  have hO : ofOk a.h m.c.s = true := by rw [a2]; exact hc.of
  have hG : tkG a.h = 0 := by rw [a2]; exact tkG_eq hc.s0 hc.s2
  have hlen : (m.w.length : Int) = m.c.len := ho.2
  obtain ⟨esl, es, eh, er, etk, edn, eno, ewd⟩ := a
  simp only at a1 a2 a3 hd hO hG
  subst a1 hd
  generalize hq : getW m.w (cellIx m.c 4 esl) = q at hp
  have e0 : En.wi ⟨esl, es, eh, er, etk, false, eno, ewd⟩ r = ⟨esl, es, eh, r, etk, false, eno, ewd⟩ := rfl
  rw [e0] at q1 q2 ⊢
  cases etk with
  | false =>
    have e1 : enSt ⟨esl, es, eh, r, false, false, eno, ewd⟩ m = ⟨esl, q, eh, r, fltI q eh r.l == 0, fltI q eh r.l != 0, fltI q eh r.l, ewd⟩ := by rw [(en_look hO).1, hq]
    have e2 : enMe ⟨esl, es, eh, r, false, false, eno, ewd⟩ m = mLd m 4 esl := (en_look hO).2
    have e3 : getW (mLd m 4 esl).w (cellIx m.c 4 esl) = q := hq
    refine ⟨⟨q1.1, q1.2.1, q1.2.2, by rw [e1], by rw [e1]; exact a2, q2.1, b1, b2, b3, ?_⟩, ?_⟩
    · rw [e1, e2, e3]
      rcases hp with ⟨rfl, hpa, hpb⟩ | ⟨rfl, h2⟩
      · rw [flt_A hG hl]
        exact .inl ⟨rfl, ⟨rfl, fun _ => ⟨rfl, rfl⟩⟩, hpb⟩
      · rw [flt_B hG]
        rcases h2 with ⟨hwa, _⟩ | ⟨hwb, _⟩
        · exact absurd hwa.1 (by show ¬ false = true; decide)
        · exact .inr ⟨rfl, .inr ⟨hwb, .inr ⟨rfl, rfl⟩⟩⟩
    · rw [e1, e2, e3]
      rcases hp with ⟨rfl, hpa, hpb⟩ | ⟨rfl, h2⟩
      · rw [flt_A hG hl]
        show (1 : Nat) < 2
        omega
      · rw [flt_B hG]
        show (0 : Nat) < 1
        omega
  | true =>
    have e1 : enSt ⟨esl, es, eh, r, true, false, eno, ewd⟩ m = ⟨esl, es, eh, r, false, dnS m 4 esl es, eno, if dnS m 4 esl es = true then mvI es (nuI es 27 3) true else ewd⟩ := (en_swap hO).1
    have e2 : enMe ⟨esl, es, eh, r, true, false, eno, ewd⟩ m = mSw m 4 esl es (mvI es (nuI es 27 3) true) := (en_swap hO).2
    have e3 : getW (mSw m 4 esl es (mvI es (nuI es 27 3) true)).w (cellIx m.c 4 esl) = getW (swpW m.w (cellIx m.c 4 esl) es (mvI es (nuI es 27 3) true)) (cellIx m.c 4 esl) := rfl
    rcases hp with ⟨rfl, hpa, hpb⟩ | ⟨rfl, h2⟩
    · obtain ⟨hes, hno⟩ := hpa.2 rfl
      simp only at hes hno
      subst hes hno
      have e4 : getW (swpW m.w (cellIx m.c 4 esl) wA (mvI wA (nuI wA 27 3) true)) (cellIx m.c 4 esl) = wB := by
        rw [swpW_hit hq, mv_A]
        exact getW_set_same hc.ix.1 (by rw [hlen]; exact hc.ix.2)
      have d1 : dnS m 4 esl wA = true := dnS_hit hc.ix.1 hq
      refine ⟨⟨q1.1, q1.2.1, q1.2.2, by rw [e1], by rw [e1]; exact a2, q2.1, b1, b2, b3, ?_⟩, ?_⟩
      · rw [e1, e2, e3, e4, d1]
        exact .inr ⟨rfl, .inl ⟨⟨rfl, rfl⟩, .inl hpb⟩⟩
      · rw [e1, e2, e3, e4, d1]
        exact Nat.zero_lt_one
    · rcases h2 with ⟨hwa, _⟩ | ⟨hwb, hpa⟩
      · exact absurd hwa.1 (by show ¬ false = true; decide)
      · have hpa : P ⟨esl, es, eh, er, true, false, eno, ewd⟩ := by
          rcases hpa with h | h
          · exact h
          · exact absurd h.1 (by show ¬ false = true; decide)
        obtain ⟨hes, hno⟩ := hpa.2 rfl
        simp only at hes hno
        subst hes hno
        have hne : getW m.w (cellIx m.c 4 esl) ≠ wA := by rw [hq]; decide
        have e4 : getW (swpW m.w (cellIx m.c 4 esl) wA (mvI wA (nuI wA 27 3) true)) (cellIx m.c 4 esl) = wB := by rw [swpW_miss hne, hq]
        have d1 : dnS m 4 esl wA = false := dnS_miss hne
        refine ⟨⟨q1.1, q1.2.1, q1.2.2, by rw [e1], by rw [e1]; exact a2, q2.1, b1, b2, b3, ?_⟩, ?_⟩
        · rw [e1, e2, e3, e4, d1]
          exact .inr ⟨rfl, .inr ⟨hwb, .inl ⟨rfl, fun h => by cases h⟩⟩⟩
        · rw [e1, e2, e3, e4, d1]
          show (1 : Nat) < 2
          omega
theorem TG.done {m : Mm} {a : En} (hd : a.dn = true) : enMe a m = m ∧ enSt a m = a := by
  unfold enMe enSt
  rw [if_pos hd, if_pos hd]
  exact ⟨rfl, rfl⟩
theorem TG.any {c : Cfg} {sl : Int} (hc : Cl c sl) {m : Mm} {a b : En} {r : Rw} (hr : r.l.length ≤ 1000) (hl : inB r.l 2 = true) (h : TG c sl m a b) : TG c sl (enMe (a.wi r) m) (enSt (a.wi r) m) b := by
  cases hd : a.dn with
  | false => exact (h.step hc hr hl hd).1
  | true =>
    have hd' : (a.wi r).dn = true := hd
    rw [(TG.done hd').1, (TG.done hd').2]
    exact h.wi r
theorem TG.run {c : Cfg} {sl : Int} (hc : Cl c sl) {b : En} {r : Rw} (hr : r.l.length ≤ 1000) (hl : inB r.l 2 = true) : ∀ (n i : Nat) (a : En) (m : Mm), TG c sl m a b → a.st = r → mu (getW m.w (cellIx c 4 sl)) a ≤ n → (enRun n i a m).2.1.dn = true ∧ TG c sl (enRun n i a m).2.2 (enRun n i a m).2.1 b := by
  intro n
  induction n with
  | zero =>
    intro i a m h _ hm
    refine ⟨?_, h⟩
    unfold mu at hm
    cases hd : a.dn with
    | true => exact hd
    | false =>
      rw [hd] at hm
      simp only [Bool.false_eq_true, if_false] at hm
      split at hm
      · split at hm <;> omega
      · split at hm <;> omega
  | succ n ih =>
    intro i a m h hs hm
    cases hd : a.dn with
    | true =>
      rw [en_stop (by rw [hd]; rfl)]
      exact ⟨hd, h⟩
    | false =>
      have hO : ofOk a.h m.c.s = true := by rw [h.a2, h.cc]; exact hc.of
      rw [en_more (by rw [hd, hO]; rfl)]
      have x := h.step hc hr hl hd
      rw [wi_wi a hs] at x
      exact ih _ _ _ x.1 (by rw [enSt_st]; exact hs) (by omega)
theorem ends {q : Int} {a b : En} (h : Inv q a b) (ha : a.dn = true) (hb : b.dn = true) : (a.no = 0 ∧ b.no = 3) ∨ (a.no = 3 ∧ b.no = 0) := by
  rcases h with ⟨_, h2, _⟩ | ⟨_, ⟨h2, h3⟩ | ⟨h2, h3⟩⟩
  · exact absurd (ha.symm.trans h2.1) (by decide)
  · rcases h3 with h3 | h3
    · exact absurd (hb.symm.trans h3.1) (by decide)
    · exact .inl ⟨h2.2, h3.2⟩
  · rcases h3 with h3 | h3
    · exact absurd (ha.symm.trans h3.1) (by decide)
    · exact .inr ⟨h3.2, h2.2⟩
theorem z1 {tl : List Nat} : ∀ k, k < 1 → (0 :: tl : List Nat).getD k 0 = k := fun k hk => by
  match k, hk with
  | 0, _ => rfl
theorem big_orB (ik : Bk) : (∃ of2 cap2 L, ik = .row of2 cap2 L ∧ 100 < L.length) ∨ ((∀ p ∈ big ik, p) ∧ ik.len ≤ 100) := by
  cases ik with
  | nil => exact .inr ⟨pcs_of trivial, Nat.zero_le _⟩
  | row of2 cap2 L =>
    by_cases h : L.length ≤ 100
    · exact .inr ⟨pcs_of ⟨decide_eq_false (by omega), trivial⟩, h⟩
    · exact .inl ⟨of2, cap2, L, rfl, by omega⟩
theorem s2 : R2.l.length ≤ 1000 := by show 1 ≤ 1000; decide
theorem s3 : R3.l.length ≤ 1000 := by show 2 ≤ 1000; decide
theorem i2 : inB R2.l 2 = true := rfl
theorem i3 : inB R3.l 2 = true := rfl
open Dec in
theorem main (c : Cfg) (sl : Int) (ik : Bk) (hr : c.Right) : CallC Try.prog fid (A c sl ik) (iHp ik) (.bool true) (iHp ik) := by
  by_cases w0 : sl < 0
  · exact CallC.of_call Eg10nok (g_0 c sl ik) (pcs_of ⟨hr, decide_eq_true w0, trivial⟩) rfl z1
  by_cases w1 : sl > 11
  · exact CallC.of_call Eg10nok (g_1 c sl ik) (pcs_of ⟨hr, decide_eq_false w0, decide_eq_true w1, trivial⟩) rfl z1
  by_cases w2 : sl ≥ c.s
  · exact CallC.of_call Eg10nok (g_2 c sl ik) (pcs_of ⟨hr, decide_eq_false w0, decide_eq_false w1, decide_eq_true w2, trivial⟩) rfl z1
  rcases big_orB ik with ⟨of2, cap2, L, rfl, hb⟩ | ⟨hb, hl⟩
  · exact CallC.of_call Eg10nok (g_big c sl of2 cap2 L) (pcs_of ⟨hr, decide_eq_false w0, decide_eq_false w1, decide_eq_false w2, decide_eq_true (by omega), trivial⟩) rfl z1
  have hc : Cl c sl := ⟨hr, by omega, by omega, by omega⟩
  have o0 := nwM_ok hr
  have wdH : Wd (HH sl) := by rw [HH_eq hc.s0 hc.s2]; exact hc.wdh
  refine CallC.of_body (E := Eg10n) (ds := []) (fn := fn) 116 (by kernel_rfl) (by kernel_rfl) (by kernel_rfl) (by kernel_rfl) ?_
  refine KC.of_exec (fr := start c sl ik [f, f, Dec.l, Dec.l, Dec.l, Dec.l, Dec.l, f, dsB ik, Dec.l, Dec.l, Dec.l, Dec.l]) Eg10nok (g_in c sl ik) (pcs_app (pcs_of ⟨hr, decide_eq_false w0, decide_eq_false w1, decide_eq_false w2, trivial⟩) (pcs_app hb (pcs_of ⟨⟨by decide, by decide, by decide, by decide⟩, o0, by decide, by decide, wdH, by decide, by decide, wdH, trivial⟩))) (Nat.le_refl _) z1 ?_
  refine KC.loop (m0 := 1) (ι := Nat × Mm × En × En) (fun x => fr ik x.2.1 x.2.2.1 x.2.2.2 (x.1 : Int) []) (fun x => x.1 ≤ ik.len ∧ TG c sl x.2.1 x.2.2.1 x.2.2.2) (fun x => ik.len - x.1)
    (fun ex fr => ex = .exit 0 ∧ ∃ m a b, TG c sl m a b ∧ fr = frM ik m a b []) (fun x hx => ?_) ?_ (0, M0 c sl, e0 sl R2, e0 sl R3) ⟨Nat.zero_le _, TG.start hc⟩
  · obtain ⟨i, m, a, b⟩ := x
    obtain ⟨hi, hI⟩ := hx
    simp only at hi hI ⊢
    by_cases hlt : i < ik.len
    · cases ik with
      | nil => exact absurd hlt (Nat.not_lt_zero _)
      | row of2 cap2 L =>
        have hlt' : i < L.length := hlt
        have hl' : L.length ≤ 100 := hl
        have hd : ∀ p ∈ rd i of2 L, p := pcs_of ⟨decide_eq_true (by omega), by omega, by omega, by rw [addN_eq]; omega, by rw [jv_eq]; exact hlt', trivial⟩
        cases hx : L.getD (jv of2 i) false with
        | true =>
          exact CodeC.of_run (fr := fr (.row of2 cap2 L) m a b (i : Int) [t, t]) Eg10nok (b_a m a b i of2 cap2 L) (pcs_app hd (pcs_of ⟨hx, rfl, ⟨rfl, hI.good hc s2⟩, trivial⟩)) (show 1 ≤ 9 by omega) z1
            (.inl ⟨rfl, (i + 1, enMe (a.wi R2) m, enSt (a.wi R2) m, b), by rw [w64_succ i (by omega)], ⟨hlt, hI.any hc s2 i2⟩, by simp only; omega⟩)
        | false =>
          exact CodeC.of_run (fr := fr (.row of2 cap2 L) m a b (i : Int) [t, f]) Eg10nok (b_b m a b i of2 cap2 L) (pcs_app hd (pcs_of ⟨hx, rfl, ⟨rfl, hI.symm.good hc s3⟩, trivial⟩)) (show 1 ≤ 9 by omega) z1
            (.inl ⟨rfl, (i + 1, enMe (b.wi R3) m, a, enSt (b.wi R3) m), by rw [w64_succ i (by omega)], ⟨hlt, (hI.symm.any hc s3 i3).symm⟩, by simp only; omega⟩)
    · exact CodeC.of_run (fr := fr ik m a b (i : Int) [f]) Eg10nok (b_0 ik m a b i) (pcs_of ⟨decide_eq_false (by omega), trivial⟩) (show 1 ≤ 9 by omega) z1 (.inr ⟨by simp, rfl, m, a, b, hI, rfl⟩)
  rintro ex fr ⟨rfl, m, a, b, hI, rfl⟩
  have rA := TG.run hc s2 i2 20 0 (a.wi R2) m (hI.wi R2) rfl (by have := mu_le (getW m.w (cellIx c 4 sl)) (a.wi R2); omega)
  have gB := rA.2.symm.good hc s3
  have rB := TG.run hc s3 i3 20 0 (b.wi R3) (RA a m).2.2 (rA.2.symm.wi R3) rfl (by have := mu_le (getW (RA a m).2.2.w (cellIx c 4 sl)) (b.wi R3); omega)
  have he := ends rB.2.p.symm rA.1 rB.1
  have wA' : Wd (RA a m).2.1.h := by rw [rA.2.a2]; exact hc.wdh
  have wB' : Wd (RB a b m).2.1.h := by rw [rB.2.a2]; exact hc.wdh
  have T : ∀ {g : Prop}, g → T20 g := fun hg => ⟨rfl, by decide, hg⟩
  have hrs : ∀ p ∈ rs a b m, p := pcs_of ⟨rfl, T (hI.good hc s2), rfl, T gB, rfl, ⟨rfl, wA'⟩, rfl, ⟨rfl, wB'⟩, rfl, ⟨rfl, wA'⟩, by rw [rA.1]; rfl, rfl, ⟨rfl, wB'⟩, by rw [show (RB a b m).2.1.dn = true from rB.1]; rfl, trivial⟩
  have er : ∀ e : En, e.h = sl + 1 → errI e (RB a b m).2.2 = e.no := fun e he => by
    unfold errI
    rw [he, show (RB a b m).2.2.c = c from rB.2.cc, if_pos hc.of]
  have ea := er (RA a m).2.1 rA.2.a2
  have eb := er (RB a b m).2.1 rB.2.a2
  rcases he with ⟨n1, n2⟩ | ⟨n1, n2⟩
  · refine KC.of_exec (fr := frM ik m a b [Dec.l, t, t, t, t]) Eg10nok (g_o1 ik m a b) (pcs_app hrs (pcs_of ⟨by rw [ea, n1]; rfl, by rw [eb]; exact beq_iff_eq.2 n2, trivial⟩)) (show 1 ≤ 9 by omega) z1 (KC.done ?_)
    cases ik with
    | nil => exact ⟨by simp, [.bool true], [], [0], 1, by kernel_rfl, by simp, by kernel_rfl, rfl, z1⟩
    | row of2 cap2 L => exact ⟨by simp, [.bool true], [], [0], 1, by kernel_rfl, by simp, by kernel_rfl, rfl, z1⟩
  · refine KC.of_exec (fr := frM ik m a b [Dec.l, t, t, f, Dec.l, t]) Eg10nok (g_o2 ik m a b) (pcs_app hrs (pcs_of ⟨by rw [ea, n1]; rfl, by rw [eb]; exact beq_iff_eq.2 n2, trivial⟩)) (show 1 ≤ 9 by omega) z1 ?_
    rw [ea, n1]
    refine KC.done ?_
    cases ik with
    | nil => exact ⟨by simp, [.bool true], [], [0], 1, by kernel_rfl, by simp, by kernel_rfl, rfl, z1⟩
    | row of2 cap2 L => exact ⟨by simp, [.bool true], [], [0], 1, by kernel_rfl, by simp, by kernel_rfl, rfl, z1⟩
theorem HR_bool {ρ : Nat → Nat} {w : World} {b0 : Blk} (v0 : b0.isV = true) (h0 : ∃ o, w.heap[ρ 0]? = some o ∧ ∀ ρ', b0.sat ρ' o) : HR (fun k => k < 1) ρ ⟨[(0, b0)], 1, []⟩ w := by
  refine HR_views (hp := ⟨[(0, b0)], 1, []⟩) fun n b hb => ?_
  simp only [Hp.get, lookB] at hb
  cases hn : Nat.beq 0 n
  · simp [hn] at hb
  · simp only [hn, cond_true, Option.some.injEq] at hb
    have := beq_nat hn
    subst this; subst hb
    exact ⟨Nat.zero_lt_one, v0, h0⟩
theorem walk (c : Cfg) (sl : Int) (v : Value) (L : List Bool) (w : World) (_ : (Lit.int .i64 sl).wf = true) (hl : RowB w v L) :
    Calls Try.prog fid #[c.v, .int .i64 sl, v] w fun e w1 => e = .returned (.bool true) ∧ Below w.heap.size w w1 := by
  by_cases hr : c.Right
  · rcases hl with ⟨rfl, rfl⟩ | ⟨b, off, cap, rfl, hcell, hblk⟩
    · have hargs : VRL (fun k => k < 1) (fun _ => 0) (A c sl .nil) [c.v, .int .i64 sl, .slice none 0 0] := fun ρ' ha => by
        simp [A, Bk.sv, Cfg.ren_v, ren]
      exact calls_of_C (main c sl .nil hr) rfl none_isV hargs (HR_none _ 1)
    · have hargs : VRL (fun k => k < 1) (fun _ => b) (A c sl (.row off cap L)) [c.v, .int .i64 sl, .slice (some ⟨b, off, none⟩) L.length cap] := fun ρ' ha => by
        have e0 : ρ' 0 = b := ha 0 (by omega)
        simp [A, Bk.sv, Cfg.ren_v, ren, e0]
      exact calls_of_C (main c sl (.row off cap L) hr) rfl view_isV hargs (HR_bool (ρ := fun _ => b) rfl (sat_bools hcell hblk))
  · obtain ⟨ik, b, hv⟩ : ∃ (ik : Bk) (b : Nat), ∀ ρ' : Nat → Nat, ρ' 0 = b → ren ρ' (ik.sv 0) = v := by
      rcases hl with ⟨rfl, rfl⟩ | ⟨b, off, cap, rfl, _⟩
      · exact ⟨.nil, 0, fun _ _ => rfl⟩
      · exact ⟨.row off cap L, b, fun ρ' h => by simp [Bk.sv, ren, h]⟩
    have hargs : VRL (fun k => k < 1) (fun _ => b) (A c sl ik) [c.v, .int .i64 sl, v] := fun ρ' ha => by
      have e0 : ρ' 0 = b := ha 0 (by omega)
      simp only [A, List.map_cons, List.map_nil, Cfg.ren_v, ren_int, hv ρ' e0]
    have hz : c.len = 0 := if_neg hr
    have q : (c.len == 0) = true := by rw [hz]; rfl
    by_cases w0 : sl < 0
    · exact true_of_path Eg10aok (p_n0 c sl ik) (pcs_of ⟨by omega, by omega, by omega, q, decide_eq_true w0, trivial⟩) none_isV hargs (HR_none _ 1)
    by_cases w1 : sl > 11
    · exact true_of_path Eg10aok (p_n1 c sl ik) (pcs_of ⟨by omega, by omega, by omega, q, decide_eq_false w0, decide_eq_true w1, trivial⟩) none_isV hargs (HR_none _ 1)
    exact true_of_path Eg10aok (p_n2 c sl ik) (pcs_of ⟨by omega, by omega, by omega, q, decide_eq_false w0, decide_eq_false w1, trivial⟩) none_isV hargs (HR_none _ 1)
end Go.Proofs.Ytmliekdbhefpkaa.GateTwoDone
