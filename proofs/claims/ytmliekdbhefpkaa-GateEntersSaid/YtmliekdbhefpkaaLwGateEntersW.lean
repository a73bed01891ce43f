/- What 'GateEnters' comes to, of any input: it returns true and changes nothing that was there. -/
import Derived.Test.YtmliekdbhefpkaaLwGateEntersV
namespace Go.Proofs.Ytmliekdbhefpkaa.GateEntersDone
open Go Go.Proofs Go.Proofs.Ytmliekdbhefpkaa.Ev Go.Proofs.Ytmliekdbhefpkaa.Ct
open Go.RowKit

theorem z3' {tl : List Nat} : ∀ k, k < 3 → (0 :: 1 :: 2 :: tl : List Nat).getD k 0 = k := z3
theorem lenP_ok (ik : Ik) : lenP ik := by
  cases ik with
  | nil => trivial
  | row of1 cap l =>
    show addN 0 l.length = (l.take l.length).length
    rw [addN_eq, List.take_length]
    omega
theorem ikC_ok {ik : Ik} {l1 : List Int} (e : ik.l = l1) (hs : l1.length * 8 ≤ 140737488355328) : ∀ p ∈ ikC ik, p := by
  cases ik with
  | nil => exact pcs_of trivial
  | row of1 cap l =>
    have e : l = l1 := e
    subst e
    exact pcs_of ⟨Nat.le_refl _, rfl, by omega, by omega, trivial⟩
theorem inP_ok {ik : Ik} (h : (rw' ik).l.length ≤ 1000) : ∀ p ∈ inP ik, p := by
  cases ik with
  | nil => exact pcs_of trivial
  | row of1 cap l =>
    have h : (l.take l.length).length ≤ 1000 := h
    rw [List.take_length] at h
    exact pcs_of ⟨rfl, Nat.le_refl _, h, trivial⟩
theorem nsN_z (ik : Ik) : ∀ k, k < 3 → (nsN ik).getD k 0 = k := by cases ik <;> exact z3'
theorem nsA_z (ik : Ik) : ∀ k, k < 3 → (nsA ik).getD k 0 = k := by cases ik <;> exact z3'
theorem nsIn_z (ik : Ik) : ∀ k, k < 3 → (nsIn ik).getD k 0 = k := by cases ik <;> exact z3'
theorem nx_le (ik : Ik) : 3 ≤ nx ik := by
  cases ik with
  | nil => exact (show 3 ≤ 12 by decide)
  | row _ _ _ => exact (show 3 ≤ 14 by decide)
theorem nxt {c : Cfg} {l : List Int} {off : Nat} {ik : Ik} {pk : Pk} {h st : Int} {a : Mm} {x d' : En} {q : Mm} (hQ : q = a.doc) (hd : d' = x) (k : Int) : fr c l off ik pk h st a q x d' k [] = fr c l off ik pk h st a a x x k [] := by
  subst hQ hd
  rfl
abbrev Inv (c : Cfg) (ik : Ik) (h : Int) (m : Mm) (e : En) : Prop := m.ok ∧ m.c = c ∧ WfW m.w ∧ Wd e.s ∧ e.h = h ∧ e.sl = tkS h ∧ e.st = rw' ik
theorem errI_in {e : En} {m : Mm} (h : ofOk e.h m.c.s = true) : errI e m = e.no := if_pos h
theorem errI_out {e : En} {m : Mm} (h : ofOk e.h m.c.s = false) : errI e m = 2 := by unfold errI; rw [h]; rfl
open Dec in
theorem round (c : Cfg) (l : List Int) (off : Nat) (ik : Ik) (pk : Pk) (h st : Int) (hr : c.Right) (hh : Wd h) (hl : (rw' ik).l.length ≤ 1000) (hg : pk.good) (hpl : pk.len ≤ 1000) (m : Mm) (e : En) (i : Nat) (hI : Inv c ik h m e) (hlt : (i : Int) < lim st) (hi : i < 1000)
    {Fin : Ex → Fr → Prop} (hF : ∀ m' e', Inv c ik h m' e' → Fin .normal (fr c l off ik pk h st m' m' e' e' ((i + 1 : Nat) : Int) [])) :
    CodeC Eg10o 3 (bd fn lp) (fr c l off ik pk h st m m e e (i : Int) []) Fin := by
  obtain ⟨hok, hc, hwf, hs, rfl, hsl, hst⟩ := hI
  obtain ⟨n1, n2, _⟩ := pk.do_ok (i : Int) hok
  have nw : WfW (M1 pk i m).w := Pk.do_wf hg (i : Int) hwf
  have nc : (M1 pk i m).c = c := n2.trans hc
  have nr : (M1 pk i m).c.Right := by rw [nc]; exact hr
  have ncs : (M1 pk i m).c.s = c.s := by rw [nc]
  have dcs : (D pk i m).c.s = c.s := ncs
  have e1 : ew ik e = e := by
    obtain ⟨a1, a2, a3, a4, a5, a6, a7, a8⟩ := e
    simp only at hst
    subst hst
    rfl
  have hgd : enGood (ew ik e) (M1 pk i m) := by rw [e1]; exact ⟨n1, nw, hs, hh, by rw [hst]; exact hl⟩
  have g1 := enMe_ok hgd
  have g2 := enSt_s hgd
  have g3 : (X pk ik i m e).st = rw' ik := enSt_st _ _
  have g4 : (X pk ik i m e).sl = e.sl := by
    show (enSt _ _).sl = _
    unfold enSt
    split
    · rfl
    · split
      · split <;> rfl
      · rfl
  have hld : ∀ p ∈ ld ik pk st m e i, p := List.forall_mem_cons.2 ⟨decide_eq_true hlt, pcs_app (pk.pc_ok hok (by rw [hc]; exact hr) hpl) (pcs_of ⟨lenP_ok ik, ⟨rfl, hgd⟩, trivial⟩)⟩
  have hXI : Inv c ik e.h (Y pk ik i m e) (X pk ik i m e) := ⟨g1.1, g1.2.1.trans nc, g1.2.2, g2.1, g2.2, g4.trans hsl, g3⟩
  have hYs : (Y pk ik i m e).c.s = c.s := by rw [hXI.2.1]
  have hXh : (X pk ik i m e).h = e.h := g2.2
  have k2 : ∀ (q : Mm), q = (Y pk ik i m e).doc → ∀ p ∈ tl1 ik pk m e i q, p := fun q hq => by
    subst hq
    exact pcs_of ⟨g1.1, ⟨rfl, rfl, rfl, rfl⟩, lenP_ok ik, ⟨rfl, by rw [hXh]; exact hh⟩, trivial⟩
  have k3 : ∀ (ev nb : Bool) (er wd : Int), ((X pk ik i m e).dn || !ofOk e.h c.s) = ev → (!ofOk e.h c.s) = nb → er = (if ofOk e.h c.s = true then (X pk ik i m e).no else 2) → wd = (X pk ik i m e).wd → ∀ p ∈ tl2 c ik pk m e e i ev nb er wd, p := fun ev nb er wd h1 h2 h3 h4 => by
    refine pcs_of ⟨?_, lenP_ok ik, ⟨rfl, by rw [hXh]; exact hh⟩, hh, h2, ?_, ?_, trivial⟩
    · unfold dnx
      rw [hXh, hYs, h1]
      cases ev <;> rfl
    · unfold errI
      show ((if ofOk (X pk ik i m e).h (Y pk ik i m e).c.s = true then (X pk ik i m e).no else 2) != er) = false
      rw [hXh, hYs, h3]
      exact bne_self_eq_false _
    · rw [h4]
      exact bne_self_eq_false _
  have fin : ∀ {q : Mm} {d' : En}, q = (Y pk ik i m e).doc → d' = X pk ik i m e → Fin .normal (fr c l off ik pk e.h st (Y pk ik i m e) q (X pk ik i m e) d' (w64 ((i : Int) + 1)) []) := fun hq hd => by
    rw [nxt hq hd, w64_succ i (by omega)]
    exact hF _ _ hXI
  have XE : X pk ik i m e = enSt e (M1 pk i m) := by show enSt (ew ik e) _ = _; rw [e1]
  have YE : Y pk ik i m e = enMe e (M1 pk i m) := by show enMe (ew ik e) _ = _; rw [e1]
  cases hdn : e.dn with
  | true =>
    have hX : e = X pk ik i m e := by rw [XE]; unfold enSt; rw [if_pos hdn]
    have hY : D pk i m = (Y pk ik i m e).doc := by rw [YE]; unfold enMe; rw [if_pos hdn]
    have hxd : (X pk ik i m e).dn = true := by rw [← hX]; exact hdn
    cases ho : ofOk e.h c.s with
    | true => exact CodeC.of_run (fr := fr c l off ik pk e.h st m m e e (i : Int) [t, t, Dec.l, Dec.l, t, f, f, f, f]) Eg10ook (r_A2 c l off ik pk e.h st m e e i) (pcs_app hld (pcs_app (pcs_of ⟨hdn, trivial⟩) (pcs_app (k2 _ hY) (pcs_app (pcs_of ⟨hdn, trivial⟩) (k3 _ _ _ _ (by rw [hxd]; rfl) (by rw [ho]; rfl) (by rw [if_pos ho, ← hX]) (by rw [← hX])))))) (nx_le ik) (nsN_z ik) (fin hY hX)
    | false => exact CodeC.of_run (fr := fr c l off ik pk e.h st m m e e (i : Int) [t, t, Dec.l, Dec.l, t, f, t, f, f]) Eg10ook (r_A1 c l off ik pk e.h st m e e i) (pcs_app hld (pcs_app (pcs_of ⟨hdn, trivial⟩) (pcs_app (k2 _ hY) (pcs_app (pcs_of ⟨hdn, trivial⟩) (k3 _ _ _ _ (by rw [hxd]; rfl) (by rw [ho]; rfl) (by rw [ho]; rfl) (by rw [← hX])))))) (nx_le ik) (nsN_z ik) (fin hY hX)
  | false =>
    have nd : ¬ e.dn = true := by rw [hdn]; decide
    cases ho : ofOk e.h c.s with
    | false =>
      have ho' : ¬ ofOk e.h (M1 pk i m).c.s = true := by rw [ncs, ho]; decide
      have hX : e = X pk ik i m e := by rw [XE]; unfold enSt; rw [if_neg nd, if_neg ho']
      have hY : D pk i m = (Y pk ik i m e).doc := by rw [YE]; unfold enMe; rw [if_neg nd, if_neg ho']
      exact CodeC.of_run (fr := fr c l off ik pk e.h st m m e e (i : Int) [t, f, t, Dec.l, f, f, t, f, f]) Eg10ook (r_B c l off ik pk e.h st m e e i) (pcs_app hld (pcs_app (pcs_of ⟨hdn, hh, by rw [dcs, ho]; rfl, trivial⟩) (pcs_app (k2 _ hY) (pcs_app (pcs_of ⟨hdn, hh, trivial⟩) (k3 _ _ _ _ (by rw [← hX, hdn]; rfl) (by rw [ho]; rfl) (by rw [ho]; rfl) (by rw [← hX])))))) (nx_le ik) (nsN_z ik) (fin hY hX)
    | true =>
      have ho' : ofOk e.h (M1 pk i m).c.s = true := by rw [ncs, ho]
      have hod : (!ofOk e.h (D pk i m).c.s) = false := by rw [dcs, ho]; rfl
      have hok' : (D pk i m).ok ∧ (D pk i m).c.Right := ⟨n1, nr⟩
      cases htk : e.tk with
      | true =>
        have hW : Wd e.s ∧ (26 : Int) ≤ 63 := ⟨hs, by omega⟩
        have hmv : mvI e.s (nuI e.s 27 3) true = putI e.s 26 true := mv_busy hs
        have hY : Sw pk i m e = (Y pk ik i m e).doc := by
          rw [YE]
          unfold enMe
          rw [if_neg nd, if_pos ho', if_pos htk, hmv, hsl]
          rfl
        cases hsw : dnS (D pk i m) 4 (tkS e.h) e.s with
        | true =>
          have hsw' : dnS (M1 pk i m) 4 e.sl e.s = true := by rw [hsl]; exact hsw
          have hX : (⟨e.sl, e.s, e.h, e.st, false, true, e.no, putI e.s 26 true⟩ : En) = X pk ik i m e := by
            rw [XE]
            unfold enSt
            rw [if_neg nd, if_pos ho', if_pos htk, if_pos hsw', hmv, hsw']
          exact CodeC.of_run (fr := fr c l off ik pk e.h st m m e e (i : Int) [t, f, f, f, t, Dec.l, Dec.l, f, f, f, f]) Eg10ook (r_D1 c l off ik pk e.h st m e e i) (pcs_app hld (pcs_app (pcs_of ⟨hdn, hh, hod, by rw [htk]; rfl, hW, hh, hok', hsw, trivial⟩) (pcs_app (k2 _ hY) (pcs_app (pcs_of trivial) (k3 _ _ _ _ (by rw [← hX]; rfl) (by rw [ho]; rfl) (by rw [if_pos ho, ← hX]) (by rw [← hX])))))) (nx_le ik) (nsA_z ik) (fin hY hX)
        | false =>
          have hsw' : dnS (M1 pk i m) 4 e.sl e.s = false := by rw [hsl]; exact hsw
          have hX : (⟨e.sl, e.s, e.h, e.st, false, e.dn, e.no, e.wd⟩ : En) = X pk ik i m e := by
            rw [XE]
            unfold enSt
            rw [if_neg nd, if_pos ho', if_pos htk, hsw', hdn]
            rfl
          exact CodeC.of_run (fr := fr c l off ik pk e.h st m m e e (i : Int) [t, f, f, f, f, Dec.l, f, f, f, f, f]) Eg10ook (r_D2 c l off ik pk e.h st m e e i) (pcs_app hld (pcs_app (pcs_of ⟨hdn, hh, hod, by rw [htk]; rfl, hW, hh, hok', hsw, trivial⟩) (pcs_app (k2 _ hY) (pcs_app (pcs_of ⟨hdn, hh, trivial⟩) (k3 _ _ _ _ (by rw [← hX, ho]; simp [hdn]) (by rw [ho]; rfl) (by rw [if_pos ho, ← hX]) (by rw [← hX])))))) (nx_le ik) (nsA_z ik) (fin hY hX)
      | false =>
        have ntk : ¬ e.tk = true := by rw [htk]; decide
        have hY : Ld pk i m e = (Y pk ik i m e).doc := by
          rw [YE]
          unfold enMe
          rw [if_neg nd, if_pos ho', if_neg ntk, hsl]
          rfl
        have hv : Wd (S pk i m e) := nw.getW _
        have hXg : X pk ik i m e = ⟨e.sl, S pk i m e, e.h, e.st, fltI (S pk i m e) e.h (rw' ik).l == 0, fltI (S pk i m e) e.h (rw' ik).l != 0, fltI (S pk i m e) e.h (rw' ik).l, e.wd⟩ := by
          rw [XE]
          unfold enSt
          rw [if_neg nd, if_pos ho', if_neg ntk, hsl, hst]
          rfl
        have hpC : ∀ p ∈ pC pk m e i, p := pcs_of ⟨hdn, hh, hod, by rw [htk]; rfl, hh, hok', hv, hv, hh, trivial⟩
        have k4 : ∀ (er : Int), er ≠ 0 → fltI (S pk i m e) e.h (rw' ik).l = er → (⟨e.sl, S pk i m e, e.h, e.st, false, true, er, e.wd⟩ : En) = X pk ik i m e ∧ ∀ p ∈ tl2 c ik pk m e e i true false er e.wd, p := fun er h0 hf => by
          have hX : (⟨e.sl, S pk i m e, e.h, e.st, false, true, er, e.wd⟩ : En) = X pk ik i m e := by
            rw [hXg, hf, beq_eq_false_iff_ne.2 h0, bne_iff_ne.2 h0]
          exact ⟨hX, k3 _ _ _ _ (by rw [← hX]; rfl) (by rw [ho]; rfl) (by rw [if_pos ho, ← hX]) (by rw [← hX])⟩
        by_cases h1 : (nuI (S pk i m e) 30 32 != tkG e.h) = true
        · obtain ⟨hX, kk⟩ := k4 2 (by decide) (by unfold fltI; rw [if_pos h1])
          exact CodeC.of_run (fr := fr c l off ik pk e.h st m m e e (i : Int) [t, f, f, t, t, Dec.l, Dec.l, Dec.l, Dec.l, f, f, f, f]) Eg10ook (r_C1 c l off ik pk e.h st m e e i) (pcs_app hld (pcs_app (pcs_app hpC (pcs_of ⟨h1, trivial⟩)) (pcs_app (k2 _ hY) (pcs_app (pcs_of trivial) kk)))) (nx_le ik) (nsA_z ik) (fin hY hX)
        by_cases h2 : (nuI (S pk i m e) 27 3 == 0) = true
        · obtain ⟨hX, kk⟩ := k4 2 (by decide) (by unfold fltI; rw [if_neg h1, if_pos h2])
          exact CodeC.of_run (fr := fr c l off ik pk e.h st m m e e (i : Int) [t, f, f, t, f, t, Dec.l, Dec.l, Dec.l, f, f, f, f]) Eg10ook (r_C2 c l off ik pk e.h st m e e i) (pcs_app hld (pcs_app (pcs_app hpC (pcs_of ⟨eq_false_of_ne_true h1, h2, trivial⟩)) (pcs_app (k2 _ hY) (pcs_app (pcs_of trivial) kk)))) (nx_le ik) (nsA_z ik) (fin hY hX)
        by_cases h3 : (nuI (S pk i m e) 27 3 == 1) = true
        · obtain ⟨hX, kk⟩ := k4 2 (by decide) (by unfold fltI; rw [if_neg h1, if_neg h2, if_pos h3])
          exact CodeC.of_run (fr := fr c l off ik pk e.h st m m e e (i : Int) [t, f, f, t, f, f, t, Dec.l, Dec.l, f, f, f, f]) Eg10ook (r_C3 c l off ik pk e.h st m e e i) (pcs_app hld (pcs_app (pcs_app hpC (pcs_of ⟨eq_false_of_ne_true h1, eq_false_of_ne_true h2, h3, trivial⟩)) (pcs_app (k2 _ hY) (pcs_app (pcs_of trivial) kk)))) (nx_le ik) (nsA_z ik) (fin hY hX)
        by_cases h4 : bitI (S pk i m e) 26 = true
        · obtain ⟨hX, kk⟩ := k4 3 (by decide) (by unfold fltI; rw [if_neg h1, if_neg h2, if_neg h3, if_pos h4])
          exact CodeC.of_run (fr := fr c l off ik pk e.h st m m e e (i : Int) [t, f, f, t, f, f, f, t, Dec.l, Dec.l, f, f, f, f]) Eg10ook (r_C4 c l off ik pk e.h st m e e i) (pcs_app hld (pcs_app (pcs_app hpC (pcs_of ⟨eq_false_of_ne_true h1, eq_false_of_ne_true h2, eq_false_of_ne_true h3, hv, h4, trivial⟩)) (pcs_app (k2 _ hY) (pcs_app (pcs_of trivial) kk)))) (nx_le ik) (nsA_z ik) (fin hY hX)
        have h5 : ∀ p ∈ [(nuI (S pk i m e) 30 32 != tkG e.h) = false, (nuI (S pk i m e) 27 3 == 0) = false, (nuI (S pk i m e) 27 3 == 1) = false, Wd (S pk i m e), bitI (S pk i m e) 26 = false], p := pcs_of ⟨eq_false_of_ne_true h1, eq_false_of_ne_true h2, eq_false_of_ne_true h3, hv, eq_false_of_ne_true h4, trivial⟩
        cases hin : inB (rw' ik).l (nuI (S pk i m e) 27 3) with
        | false =>
          obtain ⟨hX, kk⟩ := k4 4 (by decide) (by unfold fltI; rw [if_neg h1, if_neg h2, if_neg h3, if_neg h4, if_neg (by rw [hin]; decide)])
          exact CodeC.of_run (fr := fr c l off ik pk e.h st m m e e (i : Int) [t, f, f, t, f, f, f, f, t, Dec.l, Dec.l, f, f, f, f]) Eg10ook (r_C5 c l off ik pk e.h st m e e i) (pcs_app hld (pcs_app (pcs_app hpC (pcs_app h5 (pcs_app (inP_ok hl) (pcs_of ⟨by rw [hin]; rfl, trivial⟩)))) (pcs_app (k2 _ hY) (pcs_app (pcs_of trivial) kk)))) (nx_le ik) (nsA_z ik) (fin hY hX)
        | true =>
          have hf : fltI (S pk i m e) e.h (rw' ik).l = 0 := by unfold fltI; rw [if_neg h1, if_neg h2, if_neg h3, if_neg h4, if_pos hin]
          have hX : (⟨e.sl, S pk i m e, e.h, e.st, true, false, 0, e.wd⟩ : En) = X pk ik i m e := by rw [hXg, hf]; rfl
          exact CodeC.of_run (fr := fr c l off ik pk e.h st m m e e (i : Int) [t, f, f, t, f, f, f, f, f, Dec.l, Dec.l, f, f, f, f]) Eg10ook (r_C6 c l off ik pk e.h st m e e i) (pcs_app hld (pcs_app (pcs_app hpC (pcs_app h5 (pcs_app (inP_ok hl) (pcs_of ⟨by rw [hin]; rfl, trivial⟩)))) (pcs_app (k2 _ hY) (pcs_app (pcs_of ⟨hh, trivial⟩) (k3 _ _ _ _ (by rw [← hX]; rfl) (by rw [ho]; rfl) (by rw [if_pos ho, ← hX]) (by rw [← hX])))))) (nx_le ik) (nsA_z ik) (fin hY hX)
open Dec in
theorem loop_C (c : Cfg) (l : List Int) (off : Nat) (ik : Ik) (pk : Pk) (h st : Int) (hr : c.Right) (hh : Wd h) (hl : (rw' ik).l.length ≤ 1000) (hg : pk.good) (hpl : pk.len ≤ 1000) (hst : st ≤ 100) (m0 : Mm) (e0 : En) (hI : Inv c ik h m0 e0) :
    KC Eg10o 3 .normal (.code (.loop (bd fn lp)) :: K) (fr c l off ik pk h st m0 m0 e0 e0 0 []) (Ev.Ends Eg10o fn 3 (.bool true) (p3Hp l off ik pk)) := by
  have hlim : 0 ≤ lim st ∧ lim st ≤ 100 := by unfold lim; split <;> omega
  refine KC.loop (m0 := 3) (ι := Nat × Mm × En) (fun x => fr c l off ik pk h st x.2.1 x.2.1 x.2.2 x.2.2 (x.1 : Int) []) (fun x => (x.1 : Int) ≤ lim st ∧ Inv c ik h x.2.1 x.2.2) (fun x => (lim st).toNat - x.1)
    (fun ex fr => ex = .exit 0 ∧ fr = frX l off ik pk) (fun x hx => ?_) ?_ (0, m0, e0) ⟨hlim.1, hI⟩
  · obtain ⟨i, m, e⟩ := x
    obtain ⟨hi, hI⟩ := hx
    simp only at hi hI ⊢
    by_cases hlt : (i : Int) < lim st
    · exact round c l off ik pk h st hr hh hl hg hpl m e i hI hlt (by omega) fun m' e' h' => .inl ⟨rfl, (i + 1, m', e'), rfl, ⟨by simp only; omega, h'⟩, by simp only; omega⟩
    · exact CodeC.of_run (fr := fr c l off ik pk h st m m e e (i : Int) [f]) Eg10ook (p_end c l off ik pk h st m e e i) (pcs_of ⟨decide_eq_false hlt, trivial⟩) (nx_le ik) z3' (.inr ⟨by simp, rfl, rfl⟩)
  rintro ex fr ⟨rfl, rfl⟩
  refine KC.of_exec Eg10ook (p_out l off ik pk) (pcs_of trivial) (Nat.le_refl _) z3' (KC.done ?_)
  cases ik <;> cases pk <;> exact ⟨by simp, [.bool true], [], [0, 1, 2], 3, by kernel_rfl, by simp, by kernel_rfl, rfl, z3'⟩
open Dec in
theorem main (c : Cfg) (l : List Int) (off cap : Nat) (ik : Ik) (pk : Pk) (h st : Int) (hr : c.Right) (hlen : (l.length : Int) = c.len) (hwf : WfW l) (hg : pk.good) (hh : Wd h) (hC : ∀ p ∈ ikC ik, p) :
    CallC Try.prog fid (A c l off cap ik pk h st) (p3Hp l off ik pk) (.bool true) (p3Hp l off ik pk) := by
  have hq : q0 c l off := ⟨hr, hlen, rfl, rfl⟩
  have o0 := newM_ok hlen
  by_cases hst : st > 100
  · exact CallC.of_call Eg10ook (p_long c l off cap ik pk h st) (List.forall_mem_cons.2 ⟨hq, pcs_app hC (pcs_of ⟨hh, decide_eq_true hst, trivial⟩)⟩) rfl z3'
  have bst : decide (st > 100) = false := decide_eq_false hst
  rcases big_or pk with ⟨of2, cap2, rows, rfl, hbig⟩ | ⟨hbig, hpl⟩
  · exact CallC.of_call Eg10ook (p_big c l off cap ik h st of2 cap2 rows) (List.forall_mem_cons.2 ⟨hq, pcs_app hC (pcs_of ⟨hh, bst, decide_eq_true (by omega), trivial⟩)⟩) rfl z3'
  have key : (∀ p ∈ ikL ik, p) → (rw' ik).l.length ≤ 1000 → CallC Try.prog fid (A c l off cap ik pk h st) (p3Hp l off ik pk) (.bool true) (p3Hp l off ik pk) := fun hL h50 => by
    have hI : Inv c ik h (newM c l) (e0 h ik) := ⟨o0, rfl, hwf, ⟨show (0 : Int) ≤ 0 by decide, show (0 : Int) ≤ 18446744073709551615 by decide⟩, rfl, rfl, rfl⟩
    refine CallC.of_body (E := Eg10o) (ds := []) (fn := fn) 136 (by kernel_rfl) (by kernel_rfl) (by kernel_rfl) (by kernel_rfl) ?_
    have hT : ∀ (nb : Bool) (er : Int), (!ofOk h c.s) = nb → er = (if ofOk h c.s = true then 0 else 2) → ∀ p ∈ inT pk h st c l off ik nb er, p := fun nb er h1 h2 =>
      List.forall_mem_cons.2 ⟨hq, pcs_app hC (List.forall_mem_cons.2 ⟨hh, List.forall_mem_cons.2 ⟨bst, pcs_app hbig (pcs_app hL (pcs_of ⟨lenP_ok ik, ⟨rfl, hh⟩, hh, by cases ofOk h c.s <;> rfl, lenP_ok ik, ⟨rfl, hh⟩, hh, h1, by
        show ((if ofOk h c.s = true then (0 : Int) else 2) != er) = false
        rw [h2]
        exact bne_self_eq_false _, hh, bne_self_eq_false _, trivial⟩))⟩⟩)⟩
    cases ho : ofOk h c.s with
    | true =>
      refine KC.of_exec (fr := start c l off cap ik pk h st [Dec.l, Dec.l, Dec.l, f, dsK pk, dsI ik, Dec.l, f, f, f, f]) Eg10ook (p_f c l off cap ik pk h st) (hT false 0 (by rw [ho]; rfl) (by rw [if_pos ho])) (Nat.le_refl _) (nsIn_z ik) ?_
      exact loop_C c l off ik pk h st hr hh h50 hg (by omega) (by omega) _ _ hI
    | false =>
      refine KC.of_exec (fr := start c l off cap ik pk h st [Dec.l, Dec.l, Dec.l, f, dsK pk, dsI ik, Dec.l, f, t, f, f]) Eg10ook (p_t c l off cap ik pk h st) (hT true 2 (by rw [ho]; rfl) (by rw [ho]; rfl)) (Nat.le_refl _) (nsIn_z ik) ?_
      exact loop_C c l off ik pk h st hr hh h50 hg (by omega) (by omega) _ _ hI
  cases ik with
  | nil => exact key (pcs_of trivial) (Nat.zero_le _)
  | row of1 cap1 l1 =>
    by_cases hb : l1.length ≤ 50
    · refine key (pcs_of ⟨decide_eq_false (by omega), trivial⟩) ?_
      show (l1.take l1.length).length ≤ 1000
      rw [List.take_length]
      omega
    · exact CallC.of_call Eg10ook (p_st c l off cap pk h st of1 cap1 l1) (List.forall_mem_cons.2 ⟨hq, pcs_app hC (List.forall_mem_cons.2 ⟨hh, List.forall_mem_cons.2 ⟨bst, pcs_app hbig (pcs_of ⟨decide_eq_true (by omega), trivial⟩)⟩⟩)⟩) rfl z3'
theorem walk (c : Cfg) (v : Value) (l : List Int) (s1 s2 : Value) (h st : Int) (l1 : List Int) (rows : List (List Int)) (w : World) (hl : RowIn .u64 w v l) (hh : (Lit.int .u64 h).wf = true) (h1 : RowIn .i64 w s1 l1) (h2 : RowR pkK w s2 rows) (hs : l1.length * 8 ≤ 140737488355328) :
    Calls Try.prog fid #[c.v, v, .agg ⟨zv h st s1 s2⟩] w fun e w1 => e = .returned (.bool true) ∧ Below w.heap.size w w1 := by
  have hw := bounds_u64 hh
  refine law_play3 (E' := Eg10o) (n := 20) Eg10aok rfl (mk := zv h st) (fun a b ρ => rfl) hl h1 h2 (fun hr hlen off cap ik pk hil hpg => ⟨_, main c l off cap ik pk h st hr hlen (row_wf hl) hpg hw (ikC_ok hil hs)⟩) (fun a m cap ik pk hil hcase => ?_)
  rcases hcase with hr | ⟨hr, hne⟩
  · exact ⟨_, _, p_nr c cap ik pk h st a m, List.forall_mem_cons.2 ⟨by simp [rightB, hr], pcs_app (ikC_ok hil hs) (pcs_of ⟨hw, trivial⟩)⟩⟩
  · exact ⟨_, _, p_nl c cap ik pk h st a m, List.forall_mem_cons.2 ⟨by simp [rightB, hr], List.forall_mem_cons.2 ⟨hr, List.forall_mem_cons.2 ⟨by simpa using hne, pcs_app (ikC_ok hil hs) (pcs_of ⟨hw, trivial⟩)⟩⟩⟩⟩
end Go.Proofs.Ytmliekdbhefpkaa.GateEntersDone
