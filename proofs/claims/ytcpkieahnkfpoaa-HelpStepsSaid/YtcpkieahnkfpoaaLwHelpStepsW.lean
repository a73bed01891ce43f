/- What 'HelpSteps' comes to, of any input: it returns true and changes nothing that was there. -/
import Derived.Test.YtcpkieahnkfpoaaCtDoc
namespace Go.Proofs.Ytcpkieahnkfpoaa.HelpStepsDone
open Go Go.Proofs Go.Proofs.Ytcpkieahnkfpoaa.Ev Go.Proofs.Ytcpkieahnkfpoaa.Ct
open Go.RowKit

noncomputable abbrev fn : Func := Try.f20
abbrev fid : FuncId := 20
/-- Where a help is. -/
inductive St where
  | num
  | look (s : Int)
  | lay (s : Int)
  | set (s : Int)
  | fin (nx s : Int)
abbrev fnV (f : FuncId) : Value := .func (.func f) ⟨[]⟩ ⟨[]⟩
def St.prog (w : Int) : St → List Value
  | .num => [fnV 92, .int .u64 w, .int .u64 0, .int .u64 (seqB w), .int .i64 (pendB w)]
  | .look s => [fnV 103, .int .u64 w, .int .u64 s, .int .u64 (seqB w), .int .i64 (pendB w)]
  | .lay s => [fnV 107, .int .u64 w, .int .u64 s, .int .u64 (seqB w), .int .i64 (pendB w)]
  | .set s => [fnV 105, .int .u64 w, .int .u64 s, .int .u64 (seqB w), .int .i64 (pendB w)]
  | .fin _ s => [.nilFunc, .int .u64 w, .int .u64 s, .int .u64 (seqB w), .int .i64 (pendB w)]
def St.doc (w : Int) : St → List Value
  | .num => [.int .u64 w, .int .i64 0, .int .u64 0, .bool false]
  | .look s => [.int .u64 w, .int .i64 1, .int .u64 s, .bool false]
  | .lay s => [.int .u64 w, .int .i64 2, .int .u64 s, .bool false]
  | .set s => [.int .u64 w, .int .i64 3, .int .u64 s, .bool false]
  | .fin nx s => [.int .u64 w, .int .i64 nx, .int .u64 s, .bool true]
abbrev hT : TypeId := 155
abbrev rhT : TypeId := 120
def zv (w st : Int) (sv : Value) : List Value := [.int .u64 w, .int .i64 st, sv]
def args (c : Cfg) (a : Option Addr) (n cap : Nat) (w st : Int) (sv : Value) : List Value := [c.v, .slice a n cap, .agg ⟨zv w st sv⟩]
def lim (st : Int) : Int := if st > 0 then st else 0
def fr (l : List Int) (off : Nat) (pk : Pk) (w st : Int) (m : Mm) (s : St) (dc : List Value) (i : Int) (ds : List Dec) : Fr := mkFr 87 [(5, .pointer (some ⟨2, 0, none⟩)), (7, .pointer (some ⟨3, 0, none⟩)), (8, .pointer (some ⟨7, 0, none⟩)), (10, .pointer (some ⟨8, 0, none⟩)), (11, .pointer (some ⟨9, 0, none⟩)), (55, .int .i64 (lim st)), (56, .int .i64 i)]
  ((0, .view off (.ints .u64 l u64T)) :: (pk.blk 1 ++ [(2, .cells (zv w st (pk.sv 1)) 118), (3, .cells (m.cells 4) memT), (4, .ints .u64 m.w u64T), (5, .view 0 (.ints .u64 m.w u64T)), (7, .cells (m.rcells 5 6) rmT), (8, .cells (s.prog w) hT), (9, .cells dc rhT)])) 10 [] ds
def frX (l : List Int) (off : Nat) (pk : Pk) : Fr := mkFr 87 [] (plHp l off pk).blks 2 [] []
def frE (l : List Int) (off : Nat) (pk : Pk) : Fr := mkFr 87 [(6, .bool true)] (plHp l off pk).blks 2 [] []
abbrev lp : List Nat := [1, 1, 1, 1, 1, 1, 0, 1, 0, 0]
noncomputable abbrev K : List Kt := [.blk 0, .code (bd fn [1, 1, 1, 1, 1, 1, 1])]
def q0 (c : Cfg) (l : List Int) (off : Nat) : List Prop := [c.Right ∧ (l.length : Int) = c.len ∧ l.length = l.length ∧ off = off]
noncomputable abbrev start (c : Cfg) (l : List Int) (off cap : Nat) (pk : Pk) (w st : Int) (ds : List Dec) : Fr := ⟨args c (some ⟨0, off, none⟩) l.length cap w st (pk.sv 1) ++ List.replicate 84 undef, plHp l off pk, ds, []⟩
abbrev live : List Nat := [5, 7, 8, 10, 11, 55, 56]
def lead (pk : Pk) (m : Mm) (st : Int) (i : Nat) : List Prop := (decide ((i : Int) < lim st) = true) :: pk.pc m
open Dec in
section
variable (c : Cfg) (l : List Int) (off cap : Nat) (pk : Pk) (w st : Int) (m : Mm) (s nx : Int) (i : Nat)
abbrev dsN : Pk → List Dec
  | .nil => [Dec.l, Dec.l, f, Dec.l, f]
  | .row _ _ _ => [Dec.l, Dec.l, f, f, f]
abbrev dc0 (w : Int) : List Value := [.int .u64 w, .int .i64 0, .int .u64 0, .bool (decide (pendB w < 0))]
theorem hs_t : execR E30 12 .normal [.code (bd fn [])] [0, 1, 3, 4, 5, 6, 7, 8, 9, 11] live 2 [] (start c l off cap pk w st (t :: dsN pk)) = some (.normal, .code (.loop (bd fn lp)) :: K, fr l off pk w st (newM c l) .num (dc0 w) 0 [], q0 c l off ++ ((decide (pendB w ≥ 0) = true) :: (decide (st > 100) = false) :: (pk.big ++ [Wd w, (!(false == decide (pendB w < 0))) = false]))) := by cases pk <;> kernel_rfl
theorem hs_f : execR E30 12 .normal [.code (bd fn [])] [0, 1, 3, 4, 5, 6, 7, 8, 9, 11] live 2 [] (start c l off cap pk w st (f :: dsN pk)) = some (.normal, .code (.loop (bd fn lp)) :: K, fr l off pk w st (newM c l) (.fin 0 0) (dc0 w) 0 [], q0 c l off ++ ((decide (pendB w ≥ 0) = false) :: (decide (st > 100) = false) :: (pk.big ++ [Wd w, (!(true == decide (pendB w < 0))) = false]))) := by cases pk <;> kernel_rfl
abbrev M1 (pk : Pk) (i : Nat) (m : Mm) : Mm := pk.do (i : Int) m
abbrev F (l : List Int) (off : Nat) (pk : Pk) (w st : Int) (m : Mm) (s : St) (i : Int) (ds : List Dec) : Fr := fr l off pk w st m s (s.doc w) i ds
def aNum (w : Int) (m : Mm) : Mm := mSw m 6 (pendB w) 0 (seqB w)
def aLook (w : Int) (m : Mm) : Mm := mLd m 4 (pendB w)
def vLook (w : Int) (m : Mm) : Int := getW m.w (cellIx m.c 4 (pendB w))
def aLay (w s : Int) (m : Mm) : Mm := mSw m 4 (pendB w) s (mvB s (bsB s))
def aSet (w : Int) (m : Mm) : Mm := mSw m 1 0 w (setB w)
theorem r_num : run E30 12 (bd fn lp) [0, 1, 2, 3, 4, 18, 19, 7, 8, 9] live 2 [] (F l off pk w st m .num (i : Int) (t :: List.replicate 12 Dec.l)) = some (.normal, F l off pk w st (aNum w (M1 pk i m)) (.look 0) (w64 ((i : Int) + 1)) [],
    lead pk m st i ++ [(M1 pk i m).ok, Wd w, (M1 pk i m).doc.ok ∧ (M1 pk i m).doc.c.Right, (aNum w (M1 pk i m)).ok, alike (aNum w (M1 pk i m)) (aNum w (M1 pk i m).doc)]) := by cases pk <;> kernel_rfl
theorem r_lkt : run E30 12 (bd fn lp) [0, 1, 2, 3, 4, 18, 19, 7, 8, 9] live 2 [] (F l off pk w st m (.look s) (i : Int) ([t, Dec.l, t, Dec.l, Dec.l, Dec.l, t] ++ List.replicate 8 Dec.l)) = some (.normal, F l off pk w st (aLook w (M1 pk i m)) (.lay (vLook w (M1 pk i m))) (w64 ((i : Int) + 1)) [],
    lead pk m st i ++ [(M1 pk i m).ok, (stB (vLook w (M1 pk i m)) == 3) = true, Wd w, (M1 pk i m).doc.ok ∧ (M1 pk i m).doc.c.Right, Wd (vLook w (M1 pk i m)), (stB (vLook w (M1 pk i m)) == 3) = true, (aLook w (M1 pk i m)).ok, alike (aLook w (M1 pk i m)) (aLook w (M1 pk i m).doc)]) := by cases pk <;> kernel_rfl
theorem r_lkf : run E30 12 (bd fn lp) [0, 1, 2, 3, 4, 18, 19, 7, 8, 9] live 2 [] (F l off pk w st m (.look s) (i : Int) ([t, Dec.l, f, Dec.l, Dec.l, Dec.l, f] ++ List.replicate 8 Dec.l)) = some (.normal, F l off pk w st (aLook w (M1 pk i m)) (.set (vLook w (M1 pk i m))) (w64 ((i : Int) + 1)) [],
    lead pk m st i ++ [(M1 pk i m).ok, (stB (vLook w (M1 pk i m)) == 3) = false, Wd w, (M1 pk i m).doc.ok ∧ (M1 pk i m).doc.c.Right, Wd (vLook w (M1 pk i m)), (stB (vLook w (M1 pk i m)) == 3) = false, (aLook w (M1 pk i m)).ok, alike (aLook w (M1 pk i m)) (aLook w (M1 pk i m).doc)]) := by cases pk <;> kernel_rfl
theorem r_lyt : run E30 12 (bd fn lp) [0, 1, 2, 3, 4, 18, 19, 7, 8, 9] live 2 [] (F l off pk w st m (.lay s) (i : Int) ([t, Dec.l, t, Dec.l, Dec.l, Dec.l, Dec.l, t] ++ List.replicate 8 Dec.l)) = some (.normal, F l off pk w st (aLay w s (M1 pk i m)) (.set s) (w64 ((i : Int) + 1)) [],
    lead pk m st i ++ [(M1 pk i m).ok, dnS (M1 pk i m) 4 (pendB w) s = true, Wd w, Wd s, Wd s, (M1 pk i m).doc.ok ∧ (M1 pk i m).doc.c.Right, dnS (M1 pk i m).doc 4 (pendB w) s = true, (aLay w s (M1 pk i m)).ok, alike (aLay w s (M1 pk i m)) (aLay w s (M1 pk i m).doc)]) := by cases pk <;> kernel_rfl
theorem r_lyf : run E30 12 (bd fn lp) [0, 1, 2, 3, 4, 18, 19, 7, 8, 9] live 2 [] (F l off pk w st m (.lay s) (i : Int) ([t, Dec.l, f, Dec.l, Dec.l, Dec.l, Dec.l, f] ++ List.replicate 8 Dec.l)) = some (.normal, F l off pk w st (aLay w s (M1 pk i m)) (.look s) (w64 ((i : Int) + 1)) [],
    lead pk m st i ++ [(M1 pk i m).ok, dnS (M1 pk i m) 4 (pendB w) s = false, Wd w, Wd s, Wd s, (M1 pk i m).doc.ok ∧ (M1 pk i m).doc.c.Right, dnS (M1 pk i m).doc 4 (pendB w) s = false, (aLay w s (M1 pk i m)).ok, alike (aLay w s (M1 pk i m)) (aLay w s (M1 pk i m).doc)]) := by cases pk <;> kernel_rfl
theorem r_set : run E30 12 (bd fn lp) [0, 1, 2, 3, 4, 17, 18, 7, 8, 9] live 2 [] (F l off pk w st m (.set s) (i : Int) (t :: List.replicate 12 Dec.l)) = some (.normal, F l off pk w st (aSet w (M1 pk i m)) (.fin 3 s) (w64 ((i : Int) + 1)) [],
    lead pk m st i ++ [(M1 pk i m).ok, Wd w, Wd w, (M1 pk i m).doc.ok ∧ (M1 pk i m).doc.c.Right, (aSet w (M1 pk i m)).ok, alike (aSet w (M1 pk i m)) (aSet w (M1 pk i m).doc)]) := by cases pk <;> kernel_rfl
theorem r_fin : run E30 12 (bd fn lp) [0, 1, 2, 3, 4, 10, 11, 7, 8, 9] live 2 [] (F l off pk w st m (.fin nx s) (i : Int) (t :: List.replicate 12 Dec.l)) = some (.normal, F l off pk w st (M1 pk i m) (.fin nx s) (w64 ((i : Int) + 1)) [],
    lead pk m st i ++ [(M1 pk i m).ok, alike (M1 pk i m) (M1 pk i m).doc]) := by cases pk <;> kernel_rfl
theorem r_end (s : St) : run E30 12 (bd fn lp) [0, 1] [] 2 [] (F l off pk w st m s (i : Int) [f]) = some (.exit 0, frX l off pk, [decide ((i : Int) < lim st) = false]) := by cases pk <;> cases s <;> kernel_rfl
theorem h_out : execR E30 12 (.exit 0) K [0, 1] [6] 2 [] (frX l off pk) = some (.ret, [], frE l off pk, []) := by cases pk <;> kernel_rfl
abbrev A : List Value := args c (some ⟨0, off, none⟩) l.length cap w st (pk.sv 1)
theorem long_t : callR E30 12 fid (A c l off cap pk w st) (plHp l off pk) [t, Dec.l, Dec.l, t, Dec.l, Dec.l, Dec.l] [0, 1] = some (.bool true, plHp l off pk, q0 c l off ++ [decide (pendB w ≥ 0) = true, decide (st > 100) = true]) := by cases pk <;> kernel_rfl
theorem long_f : callR E30 12 fid (A c l off cap pk w st) (plHp l off pk) [f, Dec.l, Dec.l, t, Dec.l, Dec.l, Dec.l] [0, 1] = some (.bool true, plHp l off pk, q0 c l off ++ [decide (pendB w ≥ 0) = false, decide (st > 100) = true]) := by cases pk <;> kernel_rfl
theorem big_t (of2 cap2 : Nat) (rows : List (List Int)) : callR E30 12 fid (A c l off cap (.row of2 cap2 rows) w st) (plHp l off (.row of2 cap2 rows)) [t, Dec.l, Dec.l, f, t, Dec.l, Dec.l] [0, 1] = some (.bool true, plHp l off (.row of2 cap2 rows), q0 c l off ++ [decide (pendB w ≥ 0) = true, decide (st > 100) = false, decide ((rows.length : Int) > 30) = true]) := by kernel_rfl
theorem big_f (of2 cap2 : Nat) (rows : List (List Int)) : callR E30 12 fid (A c l off cap (.row of2 cap2 rows) w st) (plHp l off (.row of2 cap2 rows)) [f, Dec.l, Dec.l, f, t, Dec.l, Dec.l] [0, 1] = some (.bool true, plHp l off (.row of2 cap2 rows), q0 c l off ++ [decide (pendB w ≥ 0) = false, decide (st > 100) = false, decide ((rows.length : Int) > 30) = true]) := by kernel_rfl
theorem not_right_t (a : Option Addr) (n : Nat) : told (doCall E29 20 fid (args c a n cap w st (pk.sv 1)) ⟨[], 2, []⟩ (t :: Dec.l :: t :: List.replicate 10 Dec.l)) = some (.bool true, [(!rightB c) = true, decide (pendB w ≥ 0) = true]) := by cases pk <;> kernel_rfl
theorem not_right_f (a : Option Addr) (n : Nat) : told (doCall E29 20 fid (args c a n cap w st (pk.sv 1)) ⟨[], 2, []⟩ (t :: Dec.l :: f :: List.replicate 10 Dec.l)) = some (.bool true, [(!rightB c) = true, decide (pendB w ≥ 0) = false]) := by cases pk <;> kernel_rfl
theorem not_len_t (a : Option Addr) (n : Nat) : told (doCall E29 20 fid (args c a n cap w st (pk.sv 1)) ⟨[], 2, []⟩ (f :: t :: t :: List.replicate 10 Dec.l)) = some (.bool true, [(!rightB c) = false, c.Right, ((n : Int) != c.len) = true, decide (pendB w ≥ 0) = true]) := by cases pk <;> kernel_rfl
theorem not_len_f (a : Option Addr) (n : Nat) : told (doCall E29 20 fid (args c a n cap w st (pk.sv 1)) ⟨[], 2, []⟩ (f :: t :: f :: List.replicate 10 Dec.l)) = some (.bool true, [(!rightB c) = false, c.Right, ((n : Int) != c.len) = true, decide (pendB w ≥ 0) = false]) := by cases pk <;> kernel_rfl
end
def St.wd : St → Prop
  | .look s | .lay s => Wd s
  | _ => True
open Dec in
theorem loop_C (c : Cfg) (l : List Int) (off : Nat) (pk : Pk) (w st : Int) (hr : c.Right) (hw0 : Wd w) (hg : pk.good) (hpl : pk.len ≤ 1000) (hst : st ≤ 100) (m0 : Mm) (s0 : St) (o0 : m0.ok) (c0 : m0.c = c) (w0 : WfW m0.w) (d0 : s0.wd) :
    KC E30 2 .normal (.code (.loop (bd fn lp)) :: K) (F l off pk w st m0 s0 0 []) (Ev.Ends E30 fn 2 (.bool true) (plHp l off pk)) := by
  have hlim : 0 ≤ lim st ∧ lim st ≤ 100 := by unfold lim; split <;> omega
  refine KC.loop (m0 := 2) (ι := Nat × Mm × St) (fun x => F l off pk w st x.2.1 x.2.2 (x.1 : Int) []) (fun x => (x.1 : Int) ≤ lim st ∧ x.2.1.ok ∧ x.2.1.c = c ∧ WfW x.2.1.w ∧ x.2.2.wd) (fun x => (lim st).toNat - x.1)
    (fun ex fr => ex = .exit 0 ∧ fr = frX l off pk) (fun x hx => ?_) ?_ (0, m0, s0) ⟨hlim.1, o0, c0, w0, d0⟩
  · obtain ⟨i, m, s⟩ := x
    obtain ⟨hi, hok, hc, hwf, hs⟩ := hx
    simp only at hi hok hc hwf hs ⊢
    by_cases hlt : (i : Int) < lim st
    · obtain ⟨n1, n2, _⟩ := pk.do_ok (i : Int) hok
      have nw := Pk.do_wf hg (i : Int) hwf
      have nc : (M1 pk i m).c = c := n2.trans hc
      have nr : (M1 pk i m).c.Right := by rw [nc]; exact hr
      have nd : (M1 pk i m).doc.ok := n1
      have hld : ∀ p ∈ lead pk m st i, p := List.forall_mem_cons.2 ⟨decide_eq_true hlt, pk.pc_ok hok (by rw [hc]; exact hr) hpl⟩
      have nx : ∀ (m' : Mm) (s' : St), m'.ok → m'.c = (M1 pk i m).c → WfW m'.w → s'.wd → ∃ j : Nat × Mm × St, F l off pk w st m' s' (w64 ((i : Int) + 1)) [] = F l off pk w st j.2.1 j.2.2 (j.1 : Int) [] ∧ ((j.1 : Int) ≤ lim st ∧ j.2.1.ok ∧ j.2.1.c = c ∧ WfW j.2.1.w ∧ j.2.2.wd) ∧ (lim st).toNat - j.1 < (lim st).toNat - i := fun m' s' h1 h2 h3 h4 =>
        ⟨(i + 1, m', s'), by rw [w64_succ i (by omega)], ⟨by simp only; omega, h1, h2.trans nc, h3, h4⟩, by simp only; omega⟩
      cases s with
      | num =>
        have q1 : (aNum w (M1 pk i m)).ok := acc_ok n1 (swpW_len _ _ _ _)
        exact CodeC.of_run (fr := F l off pk w st m .num (i : Int) (t :: List.replicate 12 Dec.l)) E30ok (r_num l off pk w st m i) (pcs_app hld (pcs_of ⟨n1, hw0, ⟨nd, nr⟩, q1, ⟨rfl, rfl, rfl, rfl⟩, trivial⟩)) (show 2 ≤ 10 by omega) z2L (.inl ⟨rfl, nx _ _ q1 rfl (nw.swpW _ _ (seqB_rng hw0)) ⟨Int.le_refl _, by omega⟩⟩)
      | look s =>
        have q1 : (aLook w (M1 pk i m)).ok := acc_ok n1 rfl
        have hv : Wd (vLook w (M1 pk i m)) := nw.getW _
        by_cases h3 : stB (vLook w (M1 pk i m)) = 3
        · exact CodeC.of_run (fr := F l off pk w st m (.look s) (i : Int) ([t, Dec.l, t, Dec.l, Dec.l, Dec.l, t] ++ List.replicate 8 Dec.l)) E30ok (r_lkt l off pk w st m s i) (pcs_app hld (pcs_of ⟨n1, beq_iff_eq.2 h3, hw0, ⟨nd, nr⟩, hv, beq_iff_eq.2 h3, q1, ⟨rfl, rfl, rfl, rfl⟩, trivial⟩)) (show 2 ≤ 10 by omega) z2L (.inl ⟨rfl, nx _ _ q1 rfl nw hv⟩)
        · exact CodeC.of_run (fr := F l off pk w st m (.look s) (i : Int) ([t, Dec.l, f, Dec.l, Dec.l, Dec.l, f] ++ List.replicate 8 Dec.l)) E30ok (r_lkf l off pk w st m s i) (pcs_app hld (pcs_of ⟨n1, beq_eq_false_iff_ne.2 h3, hw0, ⟨nd, nr⟩, hv, beq_eq_false_iff_ne.2 h3, q1, ⟨rfl, rfl, rfl, rfl⟩, trivial⟩)) (show 2 ≤ 10 by omega) z2L (.inl ⟨rfl, nx _ _ q1 rfl nw trivial⟩)
      | lay s =>
        have q1 : (aLay w s (M1 pk i m)).ok := acc_ok n1 (swpW_len _ _ _ _)
        have hs' : Wd s := hs
        have qw : WfW (aLay w s (M1 pk i m)).w := nw.swpW _ _ (mvB_rng _ _)
        cases hd : dnS (M1 pk i m) 4 (pendB w) s
        · exact CodeC.of_run (fr := F l off pk w st m (.lay s) (i : Int) ([t, Dec.l, f, Dec.l, Dec.l, Dec.l, Dec.l, f] ++ List.replicate 8 Dec.l)) E30ok (r_lyf l off pk w st m s i) (pcs_app hld (pcs_of ⟨n1, hd, hw0, hs', hs', ⟨nd, nr⟩, hd, q1, ⟨rfl, rfl, rfl, rfl⟩, trivial⟩)) (show 2 ≤ 10 by omega) z2L (.inl ⟨rfl, nx _ _ q1 rfl qw hs'⟩)
        · exact CodeC.of_run (fr := F l off pk w st m (.lay s) (i : Int) ([t, Dec.l, t, Dec.l, Dec.l, Dec.l, Dec.l, t] ++ List.replicate 8 Dec.l)) E30ok (r_lyt l off pk w st m s i) (pcs_app hld (pcs_of ⟨n1, hd, hw0, hs', hs', ⟨nd, nr⟩, hd, q1, ⟨rfl, rfl, rfl, rfl⟩, trivial⟩)) (show 2 ≤ 10 by omega) z2L (.inl ⟨rfl, nx _ _ q1 rfl qw trivial⟩)
      | set s =>
        have q1 : (aSet w (M1 pk i m)).ok := acc_ok n1 (swpW_len _ _ _ _)
        exact CodeC.of_run (fr := F l off pk w st m (.set s) (i : Int) (t :: List.replicate 12 Dec.l)) E30ok (r_set l off pk w st m s i) (pcs_app hld (pcs_of ⟨n1, hw0, hw0, ⟨nd, nr⟩, q1, ⟨rfl, rfl, rfl, rfl⟩, trivial⟩)) (show 2 ≤ 10 by omega) z2L (.inl ⟨rfl, nx _ _ q1 rfl (nw.swpW _ _ (setB_rng w)) trivial⟩)
      | fin nx' s =>
        exact CodeC.of_run (fr := F l off pk w st m (.fin nx' s) (i : Int) (t :: List.replicate 12 Dec.l)) E30ok (r_fin l off pk w st m s nx' i) (pcs_app hld (pcs_of ⟨n1, ⟨rfl, rfl, rfl, rfl⟩, trivial⟩)) (show 2 ≤ 10 by omega) z2L (.inl ⟨rfl, nx _ _ n1 rfl nw trivial⟩)
    · exact CodeC.of_run (fr := F l off pk w st m s (i : Int) [f]) E30ok (r_end l off pk w st m i s) (pcs_of ⟨decide_eq_false hlt, trivial⟩) (show 2 ≤ 10 by omega) z2L (.inr ⟨by simp, rfl, rfl⟩)
  rintro ex fr ⟨rfl, rfl⟩
  refine KC.of_exec E30ok (h_out l off pk) (pcs_of trivial) (Nat.le_refl _) z2L (KC.done ?_)
  cases pk with
  | nil => exact ⟨by simp, [.bool true], [], [0, 1], 2, by kernel_rfl, by simp, by kernel_rfl, rfl, z2L⟩
  | row of2 cap2 rows => exact ⟨by simp, [.bool true], [], [0, 1], 2, by kernel_rfl, by simp, by kernel_rfl, rfl, z2L⟩
open Dec in
theorem main (c : Cfg) (l : List Int) (off cap : Nat) (pk : Pk) (w st : Int) (hr : c.Right) (hlen : (l.length : Int) = c.len) (hwf : WfW l) (hw0 : Wd w) (hg : pk.good) :
    CallC Try.prog fid (args c (some ⟨0, off, none⟩) l.length cap w st (pk.sv 1)) (plHp l off pk) (.bool true) (plHp l off pk) := by
  have hq : ∀ p ∈ q0 c l off, p := pcs_of ⟨⟨hr, hlen, rfl, rfl⟩, trivial⟩
  have o0 := newM_ok hlen
  by_cases hp : pendB w ≥ 0
  · have bp : decide (pendB w < 0) = false := decide_eq_false (by omega)
    by_cases hst : st > 100
    · exact CallC.of_call E30ok (long_t c l off cap pk w st) (pcs_app hq (pcs_of ⟨decide_eq_true hp, decide_eq_true hst, trivial⟩)) rfl z2L
    have bst : decide (st > 100) = false := decide_eq_false hst
    rcases big_or pk with ⟨of2, cap2, rows, rfl, hbig⟩ | ⟨hbig, hpl⟩
    · exact CallC.of_call E30ok (big_t c l off cap w st of2 cap2 rows) (pcs_app hq (pcs_of ⟨decide_eq_true hp, bst, decide_eq_true (by omega), trivial⟩)) rfl z2L
    refine CallC.of_body (E := E30) (ds := []) (fn := fn) 84 (by kernel_rfl) (by kernel_rfl) (by kernel_rfl) (by kernel_rfl) ?_
    refine KC.of_exec (fr := start c l off cap pk w st (t :: dsN pk)) E30ok (hs_t c l off cap pk w st) (pcs_app hq (List.forall_mem_cons.2 ⟨decide_eq_true hp, List.forall_mem_cons.2 ⟨bst, pcs_app hbig (pcs_of ⟨hw0, by rw [bp]; rfl, trivial⟩)⟩⟩)) (Nat.le_refl _) z2L ?_
    unfold dc0
    rw [bp]
    exact loop_C c l off pk w st hr hw0 hg (by omega) (by omega) (newM c l) .num o0 rfl hwf trivial
  · have bp : decide (pendB w < 0) = true := decide_eq_true (by omega)
    by_cases hst : st > 100
    · exact CallC.of_call E30ok (long_f c l off cap pk w st) (pcs_app hq (pcs_of ⟨decide_eq_false hp, decide_eq_true hst, trivial⟩)) rfl z2L
    have bst : decide (st > 100) = false := decide_eq_false hst
    rcases big_or pk with ⟨of2, cap2, rows, rfl, hbig⟩ | ⟨hbig, hpl⟩
    · exact CallC.of_call E30ok (big_f c l off cap w st of2 cap2 rows) (pcs_app hq (pcs_of ⟨decide_eq_false hp, bst, decide_eq_true (by omega), trivial⟩)) rfl z2L
    refine CallC.of_body (E := E30) (ds := []) (fn := fn) 84 (by kernel_rfl) (by kernel_rfl) (by kernel_rfl) (by kernel_rfl) ?_
    refine KC.of_exec (fr := start c l off cap pk w st (f :: dsN pk)) E30ok (hs_f c l off cap pk w st) (pcs_app hq (List.forall_mem_cons.2 ⟨decide_eq_false hp, List.forall_mem_cons.2 ⟨bst, pcs_app hbig (pcs_of ⟨hw0, by rw [bp]; rfl, trivial⟩)⟩⟩)) (Nat.le_refl _) z2L ?_
    unfold dc0
    rw [bp]
    exact loop_C c l off pk w st hr hw0 hg (by omega) (by omega) (newM c l) (.fin 0 0) o0 rfl hwf trivial

theorem walk (c : Cfg) (v : Value) (l : List Int) (zs : List Int) (sv : Value) (rows : List (List Int)) (w : World) (hl : RowIn .u64 w v l) (hz : zs.length = 2) (hzw : ∀ i, i < 2 → (Lit.int (([.u64, .i64] : List IntKind).getD i .i64) (zs.getD i 0)).wf = true) (hs : RowR pkK w sv rows) :
    Calls Try.prog fid #[c.v, v, .agg ⟨rowV [.u64, .i64] zs ++ [sv]⟩] w fun e w1 => e = .returned (.bool true) ∧ Below w.heap.size w w1 := by
  obtain ⟨x, st, rfl⟩ : ∃ a b, zs = [a, b] := by
    match zs, hz with
    | [a, b], _ => exact ⟨a, b, rfl⟩
  have hx : Wd x := bounds_u64 (hzw 0 (by omega))
  refine law_play2 (E' := E30) (n := 20) E29ok rfl hl hs (fun hr hlen off cap pk hpk => ⟨_, main c l off cap pk x st hr hlen (row_wf hl) hx (good_of hs hpk)⟩) (fun hr a m cap pk => ?_) (fun hr a m cap pk hlen => ?_)
  · by_cases hp : pendB x ≥ 0
    · exact ⟨_, _, not_right_t c cap pk x st a m, pcs_of ⟨by simp [rightB, hr], decide_eq_true hp, trivial⟩⟩
    · exact ⟨_, _, not_right_f c cap pk x st a m, pcs_of ⟨by simp [rightB, hr], decide_eq_false hp, trivial⟩⟩
  · by_cases hp : pendB x ≥ 0
    · exact ⟨_, _, not_len_t c cap pk x st a m, pcs_of ⟨by simp [rightB, hr], hr, by simpa using hlen, decide_eq_true hp, trivial⟩⟩
    · exact ⟨_, _, not_len_f c cap pk x st a m, pcs_of ⟨by simp [rightB, hr], hr, by simpa using hlen, decide_eq_false hp, trivial⟩⟩
end Go.Proofs.Ytcpkieahnkfpoaa.HelpStepsDone
