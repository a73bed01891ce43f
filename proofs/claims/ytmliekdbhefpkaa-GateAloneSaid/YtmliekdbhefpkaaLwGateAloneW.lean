/- What 'GateAlone' comes to, of any input: it returns true and changes nothing that was there. -/
import Derived.Test.YtmliekdbhefpkaaLwGateAloneV
namespace Go.Proofs.Ytmliekdbhefpkaa.GateAloneDone
open Go Go.Proofs Go.Proofs.Ytmliekdbhefpkaa.Ev Go.Proofs.Ytmliekdbhefpkaa.Ct
open Go.RowKit

open Dec in
theorem p_nr (c : Cfg) (a : Option Addr) (n cap : Nat) (ik : Ik) (pk : Pk) (h st : Int) : told (doCall Eg10a 20 fid (args c a n cap ik pk h st) ⟨p3 ik pk, 3, []⟩ (t :: List.replicate 16 Dec.l)) = some (.bool true, ((!rightB c) = true) :: (ikC ik ++ [Wd h])) := by cases ik <;> cases pk <;> kernel_rfl
open Dec in
theorem p_nl (c : Cfg) (a : Option Addr) (n cap : Nat) (ik : Ik) (pk : Pk) (h st : Int) : told (doCall Eg10a 20 fid (args c a n cap ik pk h st) ⟨p3 ik pk, 3, []⟩ (f :: t :: List.replicate 16 Dec.l)) = some (.bool true, ((!rightB c) = false) :: c.Right :: (((n : Int) != c.len) = true) :: (ikC ik ++ [Wd h])) := by cases ik <;> cases pk <;> kernel_rfl
theorem z3' {tl : List Nat} : ∀ k, k < 3 → (0 :: 1 :: 2 :: tl : List Nat).getD k 0 = k := z3
theorem lenP_ok (ik : Ik) : lenP ik := by
  cases ik with
  | nil => trivial
  | row of1 cap l =>
    show addN 0 l.length = (l.take l.length).length
    rw [addN_eq, List.take_length]
    omega
theorem ikC_ok {ik : Ik} {l1 : List Int} (e : ik.l = l1) (hs : l1.length * 8 ≤ 140737488355328) : ∀ p ∈ ikC ik, p := by
  cases ik with
  | nil => exact pcs_of trivial
  | row of1 cap l =>
    have e : l = l1 := e
    subst e
    exact pcs_of ⟨Nat.le_refl _, rfl, by omega, by omega, trivial⟩
/-- What its run comes to. -/
theorem run {c : Cfg} {l : List Int} {h : Int} {ik : Ik} (hr : c.Right) (hwf : WfW l) : ∃ en : Bool, (errI (RR c l h ik).2.1 (RR c l h ik).2.2 == 0) = en ∧ (RR c l h ik).2.1.sl = tkS h ∧ (RR c l h ik).2.1.h = h ∧ ((RR c l h ik).2.1.dn || !ofOk h c.s) = true ∧ (RR c l h ik).2.2.c = c ∧ (RR c l h ik).2.2.N = l.length ∧
    (RR c l h ik).2.2.w = (if en = true then setW l (cellIx c 4 (tkS h)) (putI (getW l (cellIx c 4 (tkS h))) 26 true) else l) ∧ (en = true → (RR c l h ik).1 = 2 ∧ 0 ≤ tkS h ∧ tkS h < c.s) ∧ (en = false → (RR c l h ik).1 ≤ 1) := by
  by_cases hO : ofOk h c.s = true
  · have hsl : 0 ≤ tkS h ∧ tkS h < c.s := by
      unfold ofOk at hO
      simp only [Bool.and_eq_true, decide_eq_true_eq] at hO
      refine ⟨?_, hO.1.2⟩
      unfold tkS
      rw [if_pos hO.1.1]
      have := tkOk_iff.1 hO.1.1
      omega
    have i4 := ix_slot_rng hr (k := 4) (n := tkS h) (.inl rfl) hsl.1 hsl.2
    have hO' : ofOk h (newM c l).c.s = true := hO
    by_cases hz : fltI (getW l (cellIx c 4 (tkS h))) h (rw' ik).l = 0
    · have e : RR c l h ik = _ := en_alone_yes (m := newM c l) (r := rw' ik) (n := 18) (i := 0) hO' i4.1 hz
      have ew := sw_w (m := newM c l) (kd := 4) (n := tkS h) (o := getW l (cellIx c 4 (tkS h))) (v := mvI (getW l (cellIx c 4 (tkS h))) (nuI (getW l (cellIx c 4 (tkS h))) 27 3) true) rfl
      rw [mv_busy (hwf.getW _)] at ew
      rw [e]
      refine ⟨true, ?_, rfl, rfl, rfl, rfl, rfl, ?_, fun _ => ⟨rfl, hsl⟩, fun x => by cases x⟩
      · show ((if ofOk h c.s = true then (0 : Int) else 2) == 0) = true
        rw [if_pos hO]
        rfl
      · rw [if_pos rfl]
        show (mSw (mLd (newM c l) 4 (tkS h)) 4 (tkS h) (getW l (cellIx c 4 (tkS h))) (mvI (getW l (cellIx c 4 (tkS h))) (nuI (getW l (cellIx c 4 (tkS h))) 27 3) true)).w = _
        rw [mv_busy (hwf.getW _)]
        exact ew
    · have e : RR c l h ik = _ := en_alone_no (m := newM c l) (r := rw' ik) (n := 19) (i := 0) hO' hz
      rw [e]
      refine ⟨false, ?_, rfl, rfl, rfl, rfl, rfl, rfl, (fun x => by cases x), fun _ => Nat.le_refl _⟩
      show ((if ofOk h c.s = true then fltI (getW l (cellIx c 4 (tkS h))) h (rw' ik).l else 2) == 0) = false
      rw [if_pos hO]
      exact beq_eq_false_iff_ne.2 hz
  · have hO := eq_false_of_ne_true hO
    have e : RR c l h ik = (0, e0 h ik, newM c l) := en_none (j := e0 h ik) (m := newM c l) hO 20 0
    rw [e]
    refine ⟨false, ?_, rfl, rfl, by rw [hO]; rfl, rfl, rfl, rfl, (fun x => by cases x), fun _ => Nat.zero_le _⟩
    show ((if ofOk h c.s = true then (0 : Int) else 2) == 0) = false
    rw [hO]
    rfl
open Dec in
theorem loop_C (c : Cfg) (l : List Int) (off cap : Nat) (ik : Ik) (pk : Pk) (m : Mm) (e : En) (n : Nat) (en : Bool) (hr : c.Right) (hlen : (l.length : Int) = c.len) (hwf : WfW l) (hN : m.N = l.length) (hh : Wd e.h) (hdn : (e.dn || !ofOk e.h m.c.s) = true)
    (hw : m.w = (if en = true then setW l (cellIx c 4 e.sl) (putI (getW l (cellIx c 4 e.sl)) 26 true) else l)) (h1 : en = true → n = 2 ∧ 0 ≤ e.sl ∧ e.sl < c.s) (h2 : en = false → n ≤ 1) :
    KC Eg10o 3 .normal (.code (.loop (bd fn lp)) :: K) (fr c l off cap ik pk m e n en 0 []) (Ev.Ends Eg10o fn 3 (.bool true) (p3Hp l off ik pk)) := by
  have hcl := Cfg.len_in hr
  have hwl : m.w.length = l.length := by rw [hw]; split; exact setW_len _ _ _; rfl
  have j0 : ∀ i : Nat, addN 0 (mulN i 1) = i := fun i => by rw [addN_eq, mulN_eq]; omega
  refine KC.loop (m0 := 3) (ι := Nat) (fun i => fr c l off cap ik pk m e n en (i : Int) []) (fun i => i ≤ l.length) (fun i => l.length - i) (fun ex fr => ex = .exit 0 ∧ fr = frX l off ik pk m e n en []) (fun i hi => ?_) ?_ 0 (Nat.zero_le _)
  · by_cases hlt : i < l.length
    · have hrd : ∀ p ∈ rd l m.w off i m.N, p := pcs_of ⟨decide_eq_true (by omega), by omega, by omega, by rw [j0]; omega, by omega, by omega, by rw [addN_eq]; omega, by unfold jv; rw [addN_eq, mulN_eq]; omega, trivial⟩
      have jve : jv off i = i := by unfold jv; rw [addN_eq, mulN_eq]; omega
      have nx' : ∃ j : Nat, fr c l off cap ik pk m e n en (w64 ((i : Int) + 1)) [] = fr c l off cap ik pk m e n en (j : Int) [] ∧ j ≤ l.length ∧ l.length - j < l.length - i := ⟨i + 1, by rw [w64_succ i (by omega)], hlt, by omega⟩
      have hz : ∀ k, k < 3 → (nsL ik).getD k 0 = k := by cases ik <;> exact z3'
      have hle : 3 ≤ nx ik := by
        cases ik with
        | nil => exact (show 3 ≤ 8 by decide)
        | row _ _ _ => exact (show 3 ≤ 10 by decide)
      cases en with
      | true =>
        rw [if_pos rfl] at hw
        cases ha : at4 c i e.sl
        · have hne : cellIx c 4 e.sl ≠ (i : Int) := fun e' => by
            obtain ⟨a1, a2⟩ := at_cellIx e' (by omega)
            simp [at4, andL, a1, a2] at ha
          have hv : m.w.getD i 0 = l.getD i 0 := Classical.byContradiction fun x => hne (setW_getD (by rw [← hw]; exact x))
          exact CodeC.of_run (fr := fr c l off cap ik pk m e n true (i : Int) [t, t, f, f]) Eg10ook (l_n c l off cap ik pk m e n true i) (pcs_app hrd (pcs_of ⟨rfl, ⟨hr, by omega, by omega⟩, ha, by rw [jve, j0, hv]; exact bne_self_eq_false _, trivial⟩)) hle hz (.inl ⟨rfl, nx'⟩)
        · have he : cellIx c 4 e.sl = (i : Int) := by
            simp only [at4, andL, Bool.and_eq_true, beq_iff_eq] at ha
            have := cellIx_at hr (k := (i : Int)) (by omega) (by omega)
            rw [ha.1, ha.2] at this
            exact this
          have hgl : getW l (i : Int) = l.getD i 0 := getW_in (by omega)
          have hv : m.w.getD i 0 = putI (l.getD i 0) 26 true := by
            rw [hw, he, hgl, setW_in (by omega)]
            exact get_set_self (by omega) _
          have hw' : Wd (l.getD i 0) := by rw [← hgl]; exact hwf.getW _
          exact CodeC.of_run (fr := fr c l off cap ik pk m e n true (i : Int) [t, t, t, f]) Eg10ook (l_a c l off cap ik pk m e n true i) (pcs_app hrd (pcs_of ⟨rfl, ⟨hr, by omega, by omega⟩, ha, ⟨by rw [jve]; exact hw', by omega⟩, by rw [jve, j0, hv]; exact bne_self_eq_false _, trivial⟩)) hle hz (.inl ⟨rfl, nx'⟩)
      | false =>
        rw [if_neg (by decide)] at hw
        exact CodeC.of_run (fr := fr c l off cap ik pk m e n false (i : Int) [t, f, Dec.l, f]) Eg10ook (l_w c l off cap ik pk m e n false i) (pcs_app hrd (pcs_of ⟨rfl, by rw [jve, j0, hw]; exact bne_self_eq_false _, trivial⟩)) hle hz (.inl ⟨rfl, nx'⟩)
    · have hz : ∀ k, k < 3 → (nsX ik).getD k 0 = k := by cases ik <;> exact z3'
      have hle : 3 ≤ nx ik := by
        cases ik with
        | nil => exact (show 3 ≤ 8 by decide)
        | row _ _ _ => exact (show 3 ≤ 10 by decide)
      exact CodeC.of_run (fr := fr c l off cap ik pk m e n en (i : Int) [f]) Eg10ook (l_e c l off cap ik pk m e n en i) (pcs_of ⟨decide_eq_false (by omega), trivial⟩) hle hz (.inr ⟨by simp, rfl, rfl⟩)
  rintro ex fr ⟨rfl, rfl⟩
  have fin : KC Eg10o 3 .ret [] (frE l off ik pk true) (Ev.Ends Eg10o fn 3 (.bool true) (p3Hp l off ik pk)) := by
    refine KC.done ?_
    cases ik <;> cases pk <;> exact ⟨by simp, [.bool true], [], [0, 1, 2], 3, by kernel_rfl, by simp, by kernel_rfl, rfl, z3'⟩
  have hle : ∀ b ds, 3 ≤ (frX l off ik pk m e n b ds).hp.next := fun b ds => by
    cases ik with
    | nil => exact (show 3 ≤ 6 by decide)
    | row _ _ _ => exact (show 3 ≤ 8 by decide)
  cases en with
  | true =>
    exact KC.of_exec (fr := frX l off ik pk m e n true [Dec.l, t, t, t]) Eg10ook (o_t l off ik pk m e n true) (pcs_of ⟨lenP_ok ik, ⟨rfl, hh⟩, hdn, rfl, by rw [(h1 rfl).1]; rfl, trivial⟩) (hle _ _) z3' fin
  | false =>
    refine KC.of_exec (fr := frX l off ik pk m e n false [Dec.l, t, f, Dec.l, t]) Eg10ook (o_f l off ik pk m e n false) (pcs_of ⟨lenP_ok ik, ⟨rfl, hh⟩, hdn, rfl, rfl, trivial⟩) (hle _ _) z3' ?_
    have := h2 rfl
    rw [decide_eq_true (show (n : Int) ≤ 1 by omega)]
    exact fin
open Dec in
theorem main (c : Cfg) (l : List Int) (off cap : Nat) (ik : Ik) (pk : Pk) (h st : Int) (hr : c.Right) (hlen : (l.length : Int) = c.len) (hwf : WfW l) (hh : Wd h) (hC : ∀ p ∈ ikC ik, p) :
    CallC Try.prog fid (A c l off cap ik pk h st) (p3Hp l off ik pk) (.bool true) (p3Hp l off ik pk) := by
  have hq : q0 c l off := ⟨hr, hlen, rfl, rfl⟩
  have o0 := newM_ok hlen
  have key : (∀ p ∈ ikL ik, p) → (rw' ik).l.length ≤ 1000 → CallC Try.prog fid (A c l off cap ik pk h st) (p3Hp l off ik pk) (.bool true) (p3Hp l off ik pk) := fun hL h50 => by
    have hg : enGood (e0 h ik) (newM c l) := ⟨o0, hwf, ⟨show (0 : Int) ≤ 0 by decide, show (0 : Int) ≤ 18446744073709551615 by decide⟩, hh, h50⟩
    have hok := (enRun_good 20 0 _ _ hg).1
    obtain ⟨en, f1, f2, f3, f4, f5, f6, f7, f8, f9⟩ := run (h := h) (ik := ik) hr hwf
    refine CallC.of_body (E := Eg10o) (ds := []) (fn := fn) 100 (by kernel_rfl) (by kernel_rfl) (by kernel_rfl) (by kernel_rfl) ?_
    have hT : T0 (RR c l h ik).2.1 := ⟨rfl, by rw [f3]; exact hh⟩
    have hns : ∀ k, k < 3 → (nsI ik).getD k 0 = k := by cases ik <;> exact z3'
    refine KC.of_exec (fr := start c l off cap ik pk h st ([Dec.l, Dec.l, Dec.l] ++ dsK ik)) Eg10ook (p_in c l off cap ik pk h st) (List.forall_mem_cons.2 ⟨hq, pcs_app hC (List.forall_mem_cons.2 ⟨hh, pcs_app hL (pcs_of ⟨lenP_ok ik, ⟨rfl, by decide, hg⟩, lenP_ok ik, hT, hok, trivial⟩)⟩)⟩) (Nat.le_refl _) hns ?_
    rw [f1]
    exact loop_C c l off cap ik pk _ _ _ en hr hlen hwf f6 hT.2 (by rw [f3, f5]; exact f4) (by rw [f2]; exact f7) (fun x => by rw [f2]; exact f8 x) f9
  cases ik with
  | nil => exact key (pcs_of trivial) (Nat.zero_le _)
  | row of1 cap1 l1 =>
    by_cases hb : l1.length ≤ 50
    · refine key (pcs_of ⟨decide_eq_false (by omega), trivial⟩) ?_
      show (l1.take l1.length).length ≤ 1000
      rw [List.take_length]
      omega
    · exact CallC.of_call Eg10ook (p_big c l off cap pk h st of1 cap1 l1) (List.forall_mem_cons.2 ⟨hq, pcs_app hC (pcs_of ⟨hh, decide_eq_true (by omega), trivial⟩)⟩) rfl z3'
theorem walk (c : Cfg) (v : Value) (l : List Int) (s1 s2 : Value) (h st : Int) (l1 : List Int) (rows : List (List Int)) (w : World) (hl : RowIn .u64 w v l) (hh : (Lit.int .u64 h).wf = true) (h1 : RowIn .i64 w s1 l1) (h2 : RowR pkK w s2 rows) (hs : l1.length * 8 ≤ 140737488355328) :
    Calls Try.prog fid #[c.v, v, .agg ⟨zv h st s1 s2⟩] w fun e w1 => e = .returned (.bool true) ∧ Below w.heap.size w w1 := by
  have hw := bounds_u64 hh
  refine law_play3 (E' := Eg10o) (n := 20) Eg10aok rfl (mk := zv h st) (fun a b ρ => rfl) hl h1 h2 (fun hr hlen off cap ik pk hil _ => ⟨_, main c l off cap ik pk h st hr hlen (row_wf hl) hw (ikC_ok hil hs)⟩) (fun a m cap ik pk hil hcase => ?_)
  rcases hcase with hr | ⟨hr, hne⟩
  · exact ⟨_, _, p_nr c a m cap ik pk h st, List.forall_mem_cons.2 ⟨by simp [rightB, hr], pcs_app (ikC_ok hil hs) (pcs_of ⟨hw, trivial⟩)⟩⟩
  · exact ⟨_, _, p_nl c a m cap ik pk h st, List.forall_mem_cons.2 ⟨by simp [rightB, hr], List.forall_mem_cons.2 ⟨hr, List.forall_mem_cons.2 ⟨by simpa using hne, pcs_app (ikC_ok hil hs) (pcs_of ⟨hw, trivial⟩)⟩⟩⟩⟩
end Go.Proofs.Ytmliekdbhefpkaa.GateAloneDone
