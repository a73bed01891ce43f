/- What 'OpenSteps' comes to, of any input: it returns true and changes nothing that was there. -/
import Derived.Test.YtjkohcdgjlaobaaLwOpenStepsU
namespace Go.Proofs.Ytjkohcdgjlaobaa.OpenStepsDone
open Go Go.Proofs Go.Proofs.Ytjkohcdgjlaobaa.Ev Go.Proofs.Ytjkohcdgjlaobaa.Ct
open Go.RowKit

abbrev dsK : Pk → Dec
  | .nil => Dec.l
  | .row _ _ _ => .f
abbrev nil0 : Prop := ([] : List Value) = []
abbrev X (pk : Pk) (i : Nat) (m : Mm) (o : Ct.Op) : Ct.Op := opSt o (M1 pk i m)
abbrev Y (pk : Pk) (i : Nat) (m : Mm) (o : Ct.Op) : Mm := opMe o (M1 pk i m)
abbrev dX (pk : Pk) (i : Nat) (m : Mm) (d : Od) : Od := odOf (opSt (opOf d) (M1 pk i m).doc)
def gpc (pk : Pk) (st : Int) (m : Mm) (o : Ct.Op) (d : Od) (i : Nat) : List Prop := (decide ((i : Int) < lim st) = true) :: (pk.pc m ++ [oP [6, 10, 11] o, nil0 ∧ isOp o.enc ∧ opGood o (M1 pk i m), d = odOf (opOf d) ∧ opGood (opOf d) (M1 pk i m).doc ∧ (M1 pk i m).doc.c.Right ∧ (opOf d).told, (Y pk i m o).ok, alike (Y pk i m o) (opMe (opOf d) (M1 pk i m).doc), oP [6, 14, 15] (X pk i m o), qAsk (X pk i m o), (!((X pk i m o).dn == (dX pk i m d).dn)) = false, oP [6, 14, 15] (X pk i m o), qAsk (X pk i m o), (!(andL [(X pk i m o).e == (dX pk i m d).e, (X pk i m o).h == (dX pk i m d).h, (X pk i m o).n == (dX pk i m d).n])) = false])
open Dec in
section
variable (c : Cfg) (l : List Int) (off cap : Nat) (pk : Pk) (st : Int) (m : Mm) (o : Ct.Op) (d : Od) (i : Nat)
theorem p_in : execR E50d 12 .normal [.code (bd fn [])] [0, 1, 3, 4, 8, 12, 9, 5, 6, 7, 10, 11] live 2 [] (start c l off cap pk st [Dec.l, Dec.l, f, dsK pk]) = some (.normal, .code (.loop (bd fn lp)) :: K, fr l off pk st (newM c l) (newM c l) op0 od0 0 [], q0 c l off ++ (nil0 :: (decide (st > 100) = false) :: pk.big)) := by cases pk <;> kernel_rfl
theorem p_go : run E50d 12 (bd fn lp) [0, 1, 2, 3, 4, 5, 6, 7, 16, 17, 14, 15] live 2 [] (fr l off pk st m m o d (i : Int) [t, Dec.l, f, f]) = some (.normal, fr l off pk st (Y pk i m o) (opMe (opOf d) (M1 pk i m).doc) (X pk i m o) (dX pk i m d) (w64 ((i : Int) + 1)) [], gpc pk st m o d i) := by cases pk <;> kernel_rfl
theorem p_end : run E50d 12 (bd fn lp) [0, 1] [] 2 [] (fr l off pk st m m o d (i : Int) [f]) = some (.exit 0, frX l off pk, [decide ((i : Int) < lim st) = false]) := by cases pk <;> kernel_rfl
theorem p_out : execR E50d 12 (.exit 0) K [0, 1] [6] 2 [] (frX l off pk) = some (.ret, [], frE l off pk, []) := by cases pk <;> kernel_rfl
theorem p_long : callR E50d 12 fid (A c l off cap pk st) (plHp l off pk) [Dec.l, Dec.l, t, Dec.l, Dec.l, Dec.l, Dec.l] [0, 1] = some (.bool true, plHp l off pk, q0 c l off ++ [nil0, decide (st > 100) = true]) := by cases pk <;> kernel_rfl
theorem p_big (of2 cap2 : Nat) (rows : List (List Int)) : callR E50d 12 fid (A c l off cap (.row of2 cap2 rows) st) (plHp l off (.row of2 cap2 rows)) [Dec.l, Dec.l, f, t, Dec.l, Dec.l, Dec.l] [0, 1] = some (.bool true, plHp l off (.row of2 cap2 rows), q0 c l off ++ [nil0, decide (st > 100) = false, decide ((rows.length : Int) > 30) = true]) := by kernel_rfl
theorem p_nr (a : Option Addr) (n : Nat) : told (doCall E50 20 fid (args c a n cap st (pk.sv 1)) ⟨[], 2, []⟩ (t :: List.replicate 16 Dec.l)) = some (.bool true, [(!rightB c) = true, nil0]) := by cases pk <;> kernel_rfl
theorem p_nl (a : Option Addr) (n : Nat) : told (doCall E50 20 fid (args c a n cap st (pk.sv 1)) ⟨[], 2, []⟩ (f :: t :: List.replicate 16 Dec.l)) = some (.bool true, [(!rightB c) = false, c.Right, ((n : Int) != c.len) = true, nil0]) := by cases pk <;> kernel_rfl
end
theorem opDoc (o : Ct.Op) (m : Mm) : opSt o m.doc = opSt o m ∧ opMe o m.doc = (opMe o m).doc := by
  obtain ⟨ph, ap, slot, s, seq, aw, av, e, h, n⟩ := o
  refine ⟨rfl, ?_⟩
  unfold opMe
  split
  · rfl
  · rfl
  · rfl
  · unfold opHme
    split <;> rfl
  · rfl
  · rfl
  · rfl
theorem op0_told : op0.told := ⟨fun _ => ⟨rfl, rfl, rfl⟩, fun x => (by cases x), fun x => (by cases x), fun x => (by cases x)⟩
open Dec in
theorem loop_C (c : Cfg) (l : List Int) (off : Nat) (pk : Pk) (st : Int) (hr : c.Right) (hg : pk.good) (hpl : pk.len ≤ 1000) (hst : st ≤ 100) (m0 : Mm) (o0 : Ct.Op) (g0 : opGood o0 m0) (t0 : o0.told) (c0 : m0.c = c) :
    KC E50d 2 .normal (.code (.loop (bd fn lp)) :: K) (fr l off pk st m0 m0 o0 (odOf o0) 0 []) (Ev.Ends E50d fn 2 (.bool true) (plHp l off pk)) := by
  have hlim : 0 ≤ lim st ∧ lim st ≤ 100 := by unfold lim; split <;> omega
  refine KC.loop (m0 := 2) (ι := Nat × Mm × Ct.Op) (fun x => fr l off pk st x.2.1 x.2.1 x.2.2 (odOf x.2.2) (x.1 : Int) []) (fun x => (x.1 : Int) ≤ lim st ∧ opGood x.2.2 x.2.1 ∧ x.2.2.told ∧ x.2.1.c = c) (fun x => (lim st).toNat - x.1)
    (fun ex fr => ex = .exit 0 ∧ fr = frX l off pk) (fun x hx => ?_) ?_ (0, m0, o0) ⟨hlim.1, g0, t0, c0⟩
  · obtain ⟨i, m, o⟩ := x
    obtain ⟨hi, hgo, hto, hc⟩ := hx
    simp only at hi hgo hto hc ⊢
    by_cases hlt : (i : Int) < lim st
    · obtain ⟨n1, n2, _⟩ := pk.do_ok (i : Int) hgo.1
      have nw : WfW (M1 pk i m).w := Pk.do_wf hg (i : Int) hgo.2.1
      have nc : (M1 pk i m).c = c := n2.trans hc
      have nr : (M1 pk i m).c.Right := by rw [nc]; exact hr
      have hG : opGood o (M1 pk i m) := ⟨n1, nw, hgo.2.2⟩
      have hG' := opStep_good hG
      have hT' := opSt_told (m := M1 pk i m) hgo.2.2 hto
      have hod := opOf_odOf hgo.2.2 hto
      obtain ⟨d1, d2⟩ := opDoc o (M1 pk i m)
      have hdX : dX pk i m (odOf o) = odOf (X pk i m o) := by show odOf (opSt (opOf (odOf o)) _) = _; rw [hod, d1]
      have hdM : opMe (opOf (odOf o)) (M1 pk i m).doc = (Y pk i m o).doc := by rw [hod, d2]
      have hcY : (Y pk i m o).c = c := (opMe_ok hG).2.1.trans nc
      have hdn : (X pk i m o).dn = (odOf (X pk i m o)).dn := by
        show decide (6 ≤ (X pk i m o).ph) = Nat.ble 6 (X pk i m o).ph
        rw [Bool.eq_iff_iff, decide_eq_true_eq, Nat.ble_eq]
      refine CodeC.of_run (fr := fr l off pk st m m o (odOf o) (i : Int) [t, Dec.l, f, f]) E50dok (p_go l off pk st m o (odOf o) i) (List.forall_mem_cons.2 ⟨decide_eq_true hlt, pcs_app (pk.pc_ok hgo.1 (by rw [hc]; exact hr) hpl) ?_⟩) (show 2 ≤ 12 by omega) z2L (.inl ⟨rfl, (i + 1, Y pk i m o, X pk i m o), ?_, ⟨by simp only; omega, hG', hT', hcY⟩, by simp only; omega⟩)
      · rw [hdX, hdM, hod]
        refine pcs_of ⟨rfl, ⟨rfl, rfl, hG⟩, ⟨rfl, hG, nr, hto⟩, hG'.1, ⟨rfl, rfl, rfl, rfl⟩, rfl, ⟨rfl, rfl, hG'.2.2⟩, ?_, rfl, ⟨rfl, rfl, hG'.2.2⟩, ?_, trivial⟩
        · rw [hdn]
          cases (odOf (X pk i m o)).dn <;> rfl
        · show (!(((X pk i m o).e == (X pk i m o).e) && (((X pk i m o).h == (X pk i m o).h) && ((X pk i m o).n == (X pk i m o).n)))) = false
          simp
      · rw [w64_succ i (by omega), hdX, hdM]
        rfl
    · exact CodeC.of_run (fr := fr l off pk st m m o (odOf o) (i : Int) [f]) E50dok (p_end l off pk st m o (odOf o) i) (pcs_of ⟨decide_eq_false hlt, trivial⟩) (show 2 ≤ 12 by omega) z2L (.inr ⟨by simp, rfl, rfl⟩)
  rintro ex fr ⟨rfl, rfl⟩
  refine KC.of_exec E50dok (p_out l off pk) (pcs_of trivial) (Nat.le_refl _) z2L (KC.done ?_)
  cases pk <;> exact ⟨by simp, [.bool true], [], [0, 1], 2, by kernel_rfl, by simp, by kernel_rfl, rfl, z2L⟩
open Dec in
theorem main (c : Cfg) (l : List Int) (off cap : Nat) (pk : Pk) (st : Int) (hr : c.Right) (hlen : (l.length : Int) = c.len) (hwf : WfW l) (hg : pk.good) :
    CallC Try.prog fid (A c l off cap pk st) (plHp l off pk) (.bool true) (plHp l off pk) := by
  have hq : ∀ p ∈ q0 c l off, p := pcs_of ⟨⟨hr, hlen, rfl, rfl⟩, trivial⟩
  by_cases hst : st > 100
  · exact CallC.of_call E50dok (p_long c l off cap pk st) (pcs_app hq (pcs_of ⟨rfl, decide_eq_true hst, trivial⟩)) rfl z2L
  have bst : decide (st > 100) = false := decide_eq_false hst
  rcases big_or pk with ⟨of2, cap2, rows, rfl, hbig⟩ | ⟨hbig, hpl⟩
  · exact CallC.of_call E50dok (p_big c l off cap st of2 cap2 rows) (pcs_app hq (pcs_of ⟨rfl, bst, decide_eq_true (by omega), trivial⟩)) rfl z2L
  refine CallC.of_body (E := E50d) (ds := []) (fn := fn) 82 (by kernel_rfl) (by kernel_rfl) (by kernel_rfl) (by kernel_rfl) ?_
  refine KC.of_exec (fr := start c l off cap pk st [Dec.l, Dec.l, f, dsK pk]) E50dok (p_in c l off cap pk st) (pcs_app hq (List.forall_mem_cons.2 ⟨rfl, List.forall_mem_cons.2 ⟨bst, hbig⟩⟩)) (Nat.le_refl _) z2L ?_
  exact loop_C c l off pk st hr hg (by omega) (by omega) (newM c l) op0 ⟨newM_ok hlen, hwf, op0_good⟩ op0_told rfl
theorem walk (c : Cfg) (v : Value) (l : List Int) (zs : List Int) (sv : Value) (rows : List (List Int)) (w : World) (hl : RowIn .u64 w v l) (hz : zs.length = 1) (_ : ∀ i, i < 1 → (Lit.int (([.i64] : List IntKind).getD i .i64) (zs.getD i 0)).wf = true) (hs : RowR pkK w sv rows) :
    Calls Try.prog fid #[c.v, v, .agg ⟨rowV [.i64] zs ++ [sv]⟩] w fun e w1 => e = .returned (.bool true) ∧ Below w.heap.size w w1 := by
  obtain ⟨st, rfl⟩ : ∃ a, zs = [a] := by
    match zs, hz with
    | [a], _ => exact ⟨a, rfl⟩
  exact law_play2 (E' := E50d) E50ok rfl hl hs (fun hr hlen off cap pk hpg => ⟨_, main c l off cap pk st hr hlen (row_wf hl) (good_of hs hpg)⟩)
    (fun hr a m cap pk => ⟨_, _, p_nr c cap pk st a m, pcs_of ⟨by simp [rightB, hr], rfl, trivial⟩⟩)
    (fun hr a m cap pk hlen => ⟨_, _, p_nl c cap pk st a m, pcs_of ⟨by simp [rightB, hr], hr, by simpa using hlen, rfl, trivial⟩⟩)
end Go.Proofs.Ytjkohcdgjlaobaa.OpenStepsDone
