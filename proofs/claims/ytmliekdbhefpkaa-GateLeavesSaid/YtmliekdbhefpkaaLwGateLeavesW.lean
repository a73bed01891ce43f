/- What 'GateLeaves' comes to, of any input: it returns true and changes nothing that was there. -/
import Derived.Test.YtmliekdbhefpkaaCtPlay3
namespace Go.Proofs.Ytmliekdbhefpkaa.GateLeavesDone
open Go Go.Proofs Go.Proofs.Ytmliekdbhefpkaa.Ev Go.Proofs.Ytmliekdbhefpkaa.Ct
open Go.RowKit

noncomputable abbrev fn : Func := Try.f13
abbrev fid : FuncId := 13
def zv (h st : Int) (a b : Value) : List Value := [.int .u64 h, a, .int .i64 st, b]
def args (c : Cfg) (a : Option Addr) (n cap : Nat) (ik : Ik) (pk : Pk) (h st : Int) : List Value := [c.v, .slice a n cap, .agg ⟨zv h st (ik.sv 1) (pk.sv 2)⟩]
def lim (st : Int) : Int := if st > 0 then st else 0
def ikD : Ik → Bool → Dec
  | .nil, _ => .l
  | .row _ _ _, true => .t
  | .row _ _ _, false => .f
def ikS : Ik → Bool → Int
  | .row of1 _ l, true => l.getD (addN of1 0 - of1) 0
  | _, _ => -1
def ikP : Ik → Bool → List Prop
  | .nil, _ => []
  | .row of1 _ l, true => [decide ((l.length : Int) > 0) = true, (0 : Int) ≤ 0, (0 : Int) < (l.length : Int), of1 ≤ addN of1 0, addN of1 0 - of1 < l.length]
  | .row _ _ l, false => [decide ((l.length : Int) > 0) = false]
def ikB : Ik → Bool
  | .nil => true
  | .row _ _ l => decide (0 < l.length)
theorem ikP_ok (ik : Ik) : ∀ p ∈ ikP ik (ikB ik), p := by
  cases ik with
  | nil => exact pcs_of trivial
  | row of1 cap l =>
    by_cases h : 0 < l.length
    · have e : ikB (.row of1 cap l) = true := decide_eq_true h
      rw [e]
      exact pcs_of ⟨decide_eq_true (by omega), by omega, by omega, by rw [addN_eq]; omega, by rw [addN_eq]; omega, trivial⟩
    · have e : ikB (.row of1 cap l) = false := decide_eq_false h
      rw [e]
      exact pcs_of ⟨decide_eq_false (by omega), trivial⟩
def fr (l : List Int) (off : Nat) (ik : Ik) (pk : Pk) (h st : Int) (m q : Mm) (j d : Lv) (i : Int) (ds : List Dec) : Fr := mkFr 99 [(5, .pointer (some ⟨3, 0, none⟩)), (10, .pointer (some ⟨4, 0, none⟩)), (11, .pointer (some ⟨5, 0, none⟩)), (13, .pointer (some ⟨6, 0, none⟩)), (14, .pointer (some ⟨7, 0, none⟩)), (67, .int .i64 (lim st)), (68, .int .i64 i)]
  ((0, .view off (.ints .u64 l u64T)) :: (ik.blk 1 ++ (pk.blk 2 ++ [(3, .cells (zv h st (ik.sv 1) (pk.sv 2)) 105), (4, .cells (m.cells 8) memT), (5, .cells (q.rcells 9 10) rmT), (6, .cells (Lv.cells 6 j) 182), (7, .cells (Lv.dcells d) 109), (8, .ints .u64 m.w u64T), (9, .view 0 (.ints .u64 q.w u64T))]))) 11 [] ds
def frX (l : List Int) (off : Nat) (ik : Ik) (pk : Pk) : Fr := mkFr 99 [] (p3Hp l off ik pk).blks 3 [] []
def frE (l : List Int) (off : Nat) (ik : Ik) (pk : Pk) : Fr := mkFr 99 [(6, .bool true)] (p3Hp l off ik pk).blks 3 [] []
abbrev lp : List Nat := [1, 1, 1, 1, 1, 1, 1, 1, 0, 1, 0, 0]
noncomputable abbrev K : List Kt := [.blk 0, .code (bd fn [1, 1, 1, 1, 1, 1, 1, 1, 1])]
def q0 (c : Cfg) (l : List Int) (off : Nat) : Prop := c.Right ∧ (l.length : Int) = c.len ∧ l.length = l.length ∧ off = off
abbrev A (c : Cfg) (l : List Int) (off cap : Nat) (ik : Ik) (pk : Pk) (h st : Int) : List Value := args c (some ⟨0, off, none⟩) l.length cap ik pk h st
noncomputable abbrev start (c : Cfg) (l : List Int) (off cap : Nat) (ik : Ik) (pk : Pk) (h st : Int) (ds : List Dec) : Fr := ⟨A c l off cap ik pk h st ++ List.replicate 96 undef, p3Hp l off ik pk, ds, []⟩
abbrev live : List Nat := [5, 10, 11, 13, 14, 67, 68]
abbrev dsK : Pk → Dec
  | .nil => Dec.l
  | .row _ _ _ => .f
abbrev j0 (h : Int) (ik : Ik) (b : Bool) : Lv := ⟨tkS h, 0, ikS ik b, false, false⟩
abbrev M1 (pk : Pk) (i : Nat) (m : Mm) : Mm := pk.do (i : Int) m
open Dec in
section
variable (c : Cfg) (l : List Int) (off cap : Nat) (ik : Ik) (b : Bool) (pk : Pk) (h st : Int) (m : Mm) (j d : Lv) (i : Nat)
theorem p_in : execR Eg10o 12 .normal [.code (bd fn [])] [0, 1, 2, 4, 5, 9, 10, 11, 6, 7, 8] live 3 [] (start c l off cap ik pk h st [ikD ik b, Dec.l, Dec.l, f, dsK pk]) = some (.normal, .code (.loop (bd fn lp)) :: K, fr l off ik pk h st (newM c l) (newM c l) (j0 h ik b) (j0 h ik b) 0 [], Wd h :: (ikP ik b ++ (q0 c l off :: (decide (st > 100) = false) :: pk.big))) := by cases ik <;> cases b <;> cases pk <;> kernel_rfl
theorem p_go : run Eg10o 12 (bd fn lp) [0, 1, 2, 3, 4, 5, 6, 7, 8, 13, 14] live 3 [] (fr l off ik pk h st m m j d (i : Int) [t, Dec.l, f]) = some (.normal, fr l off ik pk h st (lMe j (M1 pk i m)) (lMe d (M1 pk i m).doc) (lSt j (M1 pk i m)) (lSt d (M1 pk i m).doc) (w64 ((i : Int) + 1)) [],
    (decide ((i : Int) < lim st) = true) :: (pk.pc m ++ [([] : List Value) = [] ∧ lGood j (M1 pk i m), lGood d (M1 pk i m).doc ∧ (M1 pk i m).doc.c.Right, (lMe j (M1 pk i m)).ok, alike (lMe j (M1 pk i m)) (lMe d (M1 pk i m).doc), (!((lSt j (M1 pk i m)).dn == (lSt d (M1 pk i m).doc).dn)) = false])) := by cases ik <;> cases pk <;> kernel_rfl
theorem p_end : run Eg10o 12 (bd fn lp) [0, 1, 2] [] 3 [] (fr l off ik pk h st m m j d (i : Int) [f]) = some (.exit 0, frX l off ik pk, [decide ((i : Int) < lim st) = false]) := by cases ik <;> cases pk <;> kernel_rfl
theorem p_out : execR Eg10o 12 (.exit 0) K [0, 1, 2] [6] 3 [] (frX l off ik pk) = some (.ret, [], frE l off ik pk, []) := by cases ik <;> cases pk <;> kernel_rfl
theorem p_long : callR Eg10o 12 fid (A c l off cap ik pk h st) (p3Hp l off ik pk) ([ikD ik b, Dec.l, Dec.l, t] ++ List.replicate 8 Dec.l) [0, 1, 2] = some (.bool true, p3Hp l off ik pk, Wd h :: (ikP ik b ++ [q0 c l off, decide (st > 100) = true])) := by cases ik <;> cases b <;> cases pk <;> kernel_rfl
theorem p_big (of2 cap2 : Nat) (rows : List (List Int)) : callR Eg10o 12 fid (A c l off cap ik (.row of2 cap2 rows) h st) (p3Hp l off ik (.row of2 cap2 rows)) ([ikD ik b, Dec.l, Dec.l, f, t] ++ List.replicate 8 Dec.l) [0, 1, 2] = some (.bool true, p3Hp l off ik (.row of2 cap2 rows), Wd h :: (ikP ik b ++ [q0 c l off, decide (st > 100) = false, decide ((rows.length : Int) > 30) = true])) := by cases ik <;> cases b <;> kernel_rfl
theorem p_nr (a : Option Addr) (n : Nat) : told (doCall Eg10a 20 fid (args c a n cap ik pk h st) ⟨p3 ik pk, 3, []⟩ (ikD ik b :: t :: List.replicate 16 Dec.l)) = some (.bool true, Wd h :: (ikP ik b ++ [(!rightB c) = true])) := by cases ik <;> cases b <;> cases pk <;> kernel_rfl
theorem p_nl (a : Option Addr) (n : Nat) : told (doCall Eg10a 20 fid (args c a n cap ik pk h st) ⟨p3 ik pk, 3, []⟩ (ikD ik b :: f :: t :: List.replicate 16 Dec.l)) = some (.bool true, Wd h :: (ikP ik b ++ [(!rightB c) = false, c.Right, ((n : Int) != c.len) = true])) := by cases ik <;> cases b <;> cases pk <;> kernel_rfl
end
theorem both {o : Lv} {m : Mm} : lSt o m.doc = lSt o m ∧ lMe o m.doc = (lMe o m).doc := by
  obtain ⟨sl, s, st, lk, dn⟩ := o
  cases dn
  · cases lk
    · exact ⟨rfl, rfl⟩
    · exact ⟨rfl, rfl⟩
  · exact ⟨rfl, rfl⟩
theorem z3' {tl : List Nat} : ∀ k, k < 3 → (0 :: 1 :: 2 :: tl : List Nat).getD k 0 = k := z3
open Dec in
theorem loop_C (c : Cfg) (l : List Int) (off : Nat) (ik : Ik) (pk : Pk) (h st : Int) (hr : c.Right) (hg : pk.good) (hpl : pk.len ≤ 1000) (hst : st ≤ 100) (m0 : Mm) (o0 : m0.ok) (c0 : m0.c = c) (w0 : WfW m0.w) (j : Lv) (s0 : Wd j.s) :
    KC Eg10o 3 .normal (.code (.loop (bd fn lp)) :: K) (fr l off ik pk h st m0 m0 j j 0 []) (Ev.Ends Eg10o fn 3 (.bool true) (p3Hp l off ik pk)) := by
  have hlim : 0 ≤ lim st ∧ lim st ≤ 100 := by unfold lim; split <;> omega
  refine KC.loop (m0 := 3) (ι := Nat × Mm × Lv) (fun x => fr l off ik pk h st x.2.1 x.2.1 x.2.2 x.2.2 (x.1 : Int) []) (fun x => (x.1 : Int) ≤ lim st ∧ x.2.1.ok ∧ x.2.1.c = c ∧ WfW x.2.1.w ∧ Wd x.2.2.s) (fun x => (lim st).toNat - x.1)
    (fun ex fr => ex = .exit 0 ∧ fr = frX l off ik pk) (fun x hx => ?_) ?_ (0, m0, j) ⟨hlim.1, o0, c0, w0, s0⟩
  · obtain ⟨i, m, j⟩ := x
    obtain ⟨hi, hok, hc, hwf, hs⟩ := hx
    simp only at hi hok hc hwf hs ⊢
    by_cases hlt : (i : Int) < lim st
    · obtain ⟨n1, n2, _⟩ := pk.do_ok (i : Int) hok
      have nw := Pk.do_wf hg (i : Int) hwf
      have nc : (M1 pk i m).c = c := n2.trans hc
      have nr : (M1 pk i m).c.Right := by rw [nc]; exact hr
      have hgd : lGood j (M1 pk i m) := ⟨n1, nw, hs⟩
      obtain ⟨r1, r2⟩ := both (o := j) (m := M1 pk i m)
      have g := lStep_good hgd
      have gc : (lMe j (M1 pk i m)).c = (M1 pk i m).c := (lMe_ok hgd).2.1
      refine CodeC.of_run (fr := fr l off ik pk h st m m j j (i : Int) [t, Dec.l, f]) Eg10ook (p_go l off ik pk h st m j j i) (List.forall_mem_cons.2 ⟨decide_eq_true hlt, pcs_app (pk.pc_ok hok (by rw [hc]; exact hr) hpl) ?_⟩) (show 3 ≤ 11 by omega) z3' (.inl ⟨rfl, (i + 1, lMe j (M1 pk i m), lSt j (M1 pk i m)), ?_, ⟨by simp only; omega, g.1, gc.trans nc, g.2.1, g.2.2⟩, by simp only; omega⟩)
      · rw [r1, r2]
        exact pcs_of ⟨⟨rfl, hgd⟩, ⟨hgd, nr⟩, g.1, ⟨rfl, rfl, rfl, rfl⟩, by cases (lSt j (M1 pk i m)).dn <;> rfl, trivial⟩
      · rw [w64_succ i (by omega), r1, r2]
        rfl
    · exact CodeC.of_run (fr := fr l off ik pk h st m m j j (i : Int) [f]) Eg10ook (p_end l off ik pk h st m j j i) (pcs_of ⟨decide_eq_false hlt, trivial⟩) (show 3 ≤ 11 by omega) z3' (.inr ⟨by simp, rfl, rfl⟩)
  rintro ex fr ⟨rfl, rfl⟩
  refine KC.of_exec Eg10ook (p_out l off ik pk) (pcs_of trivial) (Nat.le_refl _) z3' (KC.done ?_)
  cases ik <;> cases pk <;> exact ⟨by simp, [.bool true], [], [0, 1, 2], 3, by kernel_rfl, by simp, by kernel_rfl, rfl, z3'⟩
open Dec in
theorem main (c : Cfg) (l : List Int) (off cap : Nat) (ik : Ik) (pk : Pk) (h st : Int) (hr : c.Right) (hlen : (l.length : Int) = c.len) (hwf : WfW l) (hg : pk.good) (hh : Wd h) :
    CallC Try.prog fid (A c l off cap ik pk h st) (p3Hp l off ik pk) (.bool true) (p3Hp l off ik pk) := by
  have hq : q0 c l off := ⟨hr, hlen, rfl, rfl⟩
  have o0 := newM_ok hlen
  have hp := ikP_ok ik
  generalize ikB ik = b at hp
  by_cases hst : st > 100
  · exact CallC.of_call Eg10ook (p_long c l off cap ik b pk h st) (List.forall_mem_cons.2 ⟨hh, pcs_app hp (pcs_of ⟨hq, decide_eq_true hst, trivial⟩)⟩) rfl z3'
  have bst : decide (st > 100) = false := decide_eq_false hst
  rcases big_or pk with ⟨of2, cap2, rows, rfl, hbig⟩ | ⟨hbig, hpl⟩
  · exact CallC.of_call Eg10ook (p_big c l off cap ik b h st of2 cap2 rows) (List.forall_mem_cons.2 ⟨hh, pcs_app hp (pcs_of ⟨hq, bst, decide_eq_true (by omega), trivial⟩)⟩) rfl z3'
  refine CallC.of_body (E := Eg10o) (ds := []) (fn := fn) 96 (by kernel_rfl) (by kernel_rfl) (by kernel_rfl) (by kernel_rfl) ?_
  refine KC.of_exec (fr := start c l off cap ik pk h st [ikD ik b, Dec.l, Dec.l, f, dsK pk]) Eg10ook (p_in c l off cap ik b pk h st) (List.forall_mem_cons.2 ⟨hh, pcs_app hp (List.forall_mem_cons.2 ⟨hq, List.forall_mem_cons.2 ⟨bst, hbig⟩⟩)⟩) (Nat.le_refl _) z3' ?_
  exact loop_C c l off ik pk h st hr hg (by omega) (by omega) (newM c l) o0 rfl hwf _ ⟨show (0 : Int) ≤ 0 by decide, show (0 : Int) ≤ 18446744073709551615 by decide⟩
theorem walk (c : Cfg) (v : Value) (l : List Int) (s1 s2 : Value) (h st : Int) (l1 : List Int) (rows : List (List Int)) (w : World) (hl : RowIn .u64 w v l) (hh : (Lit.int .u64 h).wf = true) (h1 : RowIn .i64 w s1 l1) (h2 : RowR pkK w s2 rows) :
    Calls Try.prog fid #[c.v, v, .agg ⟨zv h st s1 s2⟩] w fun e w1 => e = .returned (.bool true) ∧ Below w.heap.size w w1 := by
  have hw := bounds_u64 hh
  refine law_play3 (E' := Eg10o) (n := 20) Eg10aok rfl (mk := zv h st) (fun a b ρ => rfl) hl h1 h2 (fun hr hlen off cap ik pk _ hpg => ⟨_, main c l off cap ik pk h st hr hlen (row_wf hl) hpg hw⟩) (fun a m cap ik pk _ hcase => ?_)
  have hp := ikP_ok ik
  generalize ikB ik = b at hp
  rcases hcase with hr | ⟨hr, hne⟩
  · exact ⟨_, _, p_nr c cap ik b pk h st a m, List.forall_mem_cons.2 ⟨hw, pcs_app hp (pcs_of ⟨by simp [rightB, hr], trivial⟩)⟩⟩
  · exact ⟨_, _, p_nl c cap ik b pk h st a m, List.forall_mem_cons.2 ⟨hw, pcs_app hp (pcs_of ⟨by simp [rightB, hr], hr, by simpa using hne, trivial⟩)⟩⟩
end Go.Proofs.Ytmliekdbhefpkaa.GateLeavesDone
