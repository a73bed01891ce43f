/- What 'JoinOwns' comes to, of any input: it returns true and changes nothing that was there. -/
import Derived.Test.YtmliekdbhefpkaaCtAl11
namespace Go.Proofs.Ytmliekdbhefpkaa.JoinOwnsDone
open Go Go.Proofs Go.Proofs.Ytmliekdbhefpkaa.Ev Go.Proofs.Ytmliekdbhefpkaa.Ct
open Go.RowKit

noncomputable abbrev fn : Func := Try.f7
abbrev fid : FuncId := 7
def zv (sl sd by' sn st : Int) (sv : Value) : List Value := [.int .i64 sl, .int .i64 sd, .int .i64 by', .int .u64 sn, .int .i64 st, sv]
def args (c : Cfg) (a : Option Addr) (n cap : Nat) (sl sd by' sn st : Int) (sv : Value) : List Value := [c.v, .slice a n cap, .agg ⟨zv sl sd by' sn st sv⟩]
def lim (st : Int) : Int := if st > 0 then st else 0
def fr (l : List Int) (off : Nat) (pk : Pk) (sl sd by' sn st : Int) (m q : Mm) (j : On) (d : On) (i : Int) (ds : List Dec) : Fr := mkFr 90 [(5, .pointer (some ⟨2, 0, none⟩)), (7, .pointer (some ⟨3, 0, none⟩)), (8, .pointer (some ⟨7, 0, none⟩)), (10, .pointer (some ⟨8, 0, none⟩)), (11, .pointer (some ⟨9, 0, none⟩)), (58, .int .i64 (lim st)), (59, .int .i64 i)]
  ((0, .view off (.ints .u64 l u64T)) :: (pk.blk 1 ++ [(2, .cells (zv sl sd by' sn st (pk.sv 1)) 57), (3, .cells (m.cells 4) memT), (4, .ints .u64 m.w u64T), (5, .view 0 (.ints .u64 q.w u64T)), (7, .cells (q.rcells 5 6) rmT), (8, .cells (On.cells 8 j) 158), (9, .cells (On.dcells d) 75)])) 10 [] ds
def frX (l : List Int) (off : Nat) (pk : Pk) : Fr := mkFr 90 [] (plHp l off pk).blks 2 [] []
def frE (l : List Int) (off : Nat) (pk : Pk) : Fr := mkFr 90 [(6, .bool true)] (plHp l off pk).blks 2 [] []
abbrev lp : List Nat := [1, 1, 1, 1, 1, 0, 1, 0, 0]
noncomputable abbrev K : List Kt := [.blk 0, .code (bd fn [1, 1, 1, 1, 1, 1])]
def q0 (c : Cfg) (l : List Int) (off : Nat) : List Prop := [c.Right ∧ (l.length : Int) = c.len ∧ l.length = l.length ∧ off = off]
noncomputable abbrev start (c : Cfg) (l : List Int) (off cap : Nat) (pk : Pk) (sl sd by' sn st : Int) (ds : List Dec) : Fr := ⟨args c (some ⟨0, off, none⟩) l.length cap sl sd by' sn st (pk.sv 1) ++ List.replicate 87 undef, plHp l off pk, ds, []⟩
abbrev live : List Nat := [5, 7, 8, 10, 11, 58, 59]
def lead (pk : Pk) (m : Mm) (st : Int) (i : Nat) : List Prop := (decide ((i : Int) < lim st) = true) :: pk.pc m
open Dec in
section
variable (c : Cfg) (l : List Int) (off cap : Nat) (pk : Pk) (sl sd by' sn st : Int) (m : Mm) (j : On) (d : On) (i : Nat)
abbrev dsK : Pk → Dec
  | .nil => Dec.l
  | .row _ _ _ => f
abbrev j0 (sl sd by' _ _ : Int) : On := ⟨sl, sd, by', 0, false, false⟩
abbrev d0 (sl sd by' _ _ : Int) : On := ⟨sl, sd, by', 0, false, false⟩
theorem p_in : execR E52 12 .normal [.code (bd fn [])] [0, 1, 3, 4, 5, 6, 7, 8, 9, 10] live 2 [] (start c l off cap pk sl sd by' sn st [Dec.l, Dec.l, f, dsK pk]) = some (.normal, .code (.loop (bd fn lp)) :: K, fr l off pk sl sd by' sn st (newM c l) (newM c l) (j0 sl sd by' sn st) (d0 sl sd by' sn st) 0 [], q0 c l off ++ ((decide (st > 100) = false) :: (pk.big ++ []))) := by cases pk <;> kernel_rfl
abbrev M1 (pk : Pk) (i : Nat) (m : Mm) : Mm := pk.do (i : Int) m
theorem p_go : run E52 12 (bd fn lp) [0, 1, 2, 3, 4, 12, 13, 7, 8, 9] live 2 [] (fr l off pk sl sd by' sn st m m j d (i : Int) [t, Dec.l, f]) = some (.normal, fr l off pk sl sd by' sn st (oMe j (M1 pk i m)) (oMe d (M1 pk i m).doc) (oSt j (M1 pk i m)) (oSt d (M1 pk i m).doc) (w64 ((i : Int) + 1)) [],
    lead pk m st i ++ [([] : List Value) = [] ∧ oGood j (M1 pk i m), oGood d (M1 pk i m).doc ∧ ((M1 pk i m).doc).c.Right, (oMe j (M1 pk i m)).ok, alike (oMe j (M1 pk i m)) (oMe d (M1 pk i m).doc), (!((oSt j (M1 pk i m)).dn == (oSt d (M1 pk i m).doc).dn)) = false]) := by cases pk <;> kernel_rfl
theorem p_end : run E52 12 (bd fn lp) [0, 1] [] 2 [] (fr l off pk sl sd by' sn st m m j d (i : Int) [f]) = some (.exit 0, frX l off pk, [decide ((i : Int) < lim st) = false]) := by cases pk <;> kernel_rfl
theorem p_out : execR E52 12 (.exit 0) K [0, 1] [6] 2 [] (frX l off pk) = some (.ret, [], frE l off pk, []) := by cases pk <;> kernel_rfl
abbrev A : List Value := args c (some ⟨0, off, none⟩) l.length cap sl sd by' sn st (pk.sv 1)
theorem p_long : callR E52 12 fid (A c l off cap pk sl sd by' sn st) (plHp l off pk) ([Dec.l, Dec.l, t] ++ List.replicate 12 Dec.l) [0, 1] = some (.bool true, plHp l off pk, q0 c l off ++ [decide (st > 100) = true]) := by cases pk <;> kernel_rfl
theorem p_big (of2 cap2 : Nat) (rows : List (List Int)) : callR E52 12 fid (A c l off cap (.row of2 cap2 rows) sl sd by' sn st) (plHp l off (.row of2 cap2 rows)) ([Dec.l, Dec.l, f, t] ++ List.replicate 12 Dec.l) [0, 1] = some (.bool true, plHp l off (.row of2 cap2 rows), q0 c l off ++ [decide (st > 100) = false, decide ((rows.length : Int) > 30) = true]) := by kernel_rfl
theorem p_nr (a : Option Addr) (n : Nat) : told (doCall E51 20 fid (args c a n cap sl sd by' sn st (pk.sv 1)) ⟨[], 2, []⟩ (t :: List.replicate 16 Dec.l)) = some (.bool true, [(!rightB c) = true]) := by cases pk <;> kernel_rfl
theorem p_nl (a : Option Addr) (n : Nat) : told (doCall E51 20 fid (args c a n cap sl sd by' sn st (pk.sv 1)) ⟨[], 2, []⟩ (f :: t :: List.replicate 16 Dec.l)) = some (.bool true, [(!rightB c) = false, c.Right, ((n : Int) != c.len) = true]) := by cases pk <;> kernel_rfl
end
theorem both {o : On} {m : Mm} (h : oGood o m) : oSt (id o) m.doc = id (oSt o m) ∧ oMe (id o) m.doc = (oMe o m).doc := by
  obtain ⟨sl, sd, by', s, lk, dn⟩ := o
  cases dn
  · cases lk
    · exact ⟨rfl, rfl⟩
    · exact ⟨rfl, rfl⟩
  · exact ⟨rfl, rfl⟩
theorem kept {o : On} {m : Mm} (h : oGood o m) : (oMe o m).ok ∧ (oMe o m).c = m.c ∧ WfW (oMe o m).w ∧ Wd (oSt o m).s := ⟨(oMe_ok h).1, (oMe_ok h).2.1, (oMe_ok h).2.2, oSt_s h⟩
open Dec in
theorem loop_C (c : Cfg) (l : List Int) (off : Nat) (pk : Pk) (sl sd by' sn st : Int) (hr : c.Right) (hg : pk.good) (hpl : pk.len ≤ 1000) (hst : st ≤ 100) (m0 : Mm) (o0 : m0.ok) (c0 : m0.c = c) (w0 : WfW m0.w) (s0 : Wd ((j0 sl sd by' sn st)).s) :
    KC E52 2 .normal (.code (.loop (bd fn lp)) :: K) (fr l off pk sl sd by' sn st m0 m0 (j0 sl sd by' sn st) (d0 sl sd by' sn st) 0 []) (Ev.Ends E52 fn 2 (.bool true) (plHp l off pk)) := by
  have hlim : 0 ≤ lim st ∧ lim st ≤ 100 := by unfold lim; split <;> omega
  have e0 : d0 sl sd by' sn st = id (j0 sl sd by' sn st) := rfl
  rw [e0]
  refine KC.loop (m0 := 2) (ι := Nat × Mm × On) (fun x => fr l off pk sl sd by' sn st x.2.1 x.2.1 x.2.2 (id x.2.2) (x.1 : Int) []) (fun x => (x.1 : Int) ≤ lim st ∧ x.2.1.ok ∧ x.2.1.c = c ∧ WfW x.2.1.w ∧ Wd (x.2.2).s) (fun x => (lim st).toNat - x.1)
    (fun ex fr => ex = .exit 0 ∧ fr = frX l off pk) (fun x hx => ?_) ?_ (0, m0, j0 sl sd by' sn st) ⟨hlim.1, o0, c0, w0, s0⟩
  · obtain ⟨i, m, j⟩ := x
    obtain ⟨hi, hok, hc, hwf, hs⟩ := hx
    simp only at hi hok hc hwf hs ⊢
    by_cases hlt : (i : Int) < lim st
    · obtain ⟨n1, n2, _⟩ := pk.do_ok (i : Int) hok
      have nw := Pk.do_wf hg (i : Int) hwf
      have nc : (M1 pk i m).c = c := n2.trans hc
      have nr : (M1 pk i m).c.Right := by rw [nc]; exact hr
      have hld : ∀ p ∈ lead pk m st i, p := List.forall_mem_cons.2 ⟨decide_eq_true hlt, pk.pc_ok hok (by rw [hc]; exact hr) hpl⟩
      have hgd : oGood j (M1 pk i m) := ⟨n1, nw, hs⟩
      obtain ⟨r1, r2⟩ := both hgd
      obtain ⟨g1, g2, g3, g4⟩ := kept hgd
      have hdg : oGood (id j) (M1 pk i m).doc ∧ ((M1 pk i m).doc).c.Right := ⟨⟨hgd.1, hgd.2.1, hgd.2.2⟩, nr⟩
      refine CodeC.of_run (fr := fr l off pk sl sd by' sn st m m j (id j) (i : Int) [t, Dec.l, f]) E52ok (p_go l off pk sl sd by' sn st m j (id j) i) (pcs_app hld ?_) (show 2 ≤ 10 by omega) z2L (.inl ⟨rfl, (i + 1, oMe j (M1 pk i m), oSt j (M1 pk i m)), ?_, ⟨by simp only; omega, g1, g2.trans nc, g3, g4⟩, by simp only; omega⟩)
      · rw [r1, r2]
        exact pcs_of ⟨⟨rfl, hgd⟩, hdg, g1, ⟨rfl, rfl, rfl, rfl⟩, bne_self_eq_false _, trivial⟩
      · rw [w64_succ i (by omega), r1, r2]
        rfl
    · exact CodeC.of_run (fr := fr l off pk sl sd by' sn st m m j (id j) (i : Int) [f]) E52ok (p_end l off pk sl sd by' sn st m j (id j) i) (pcs_of ⟨decide_eq_false hlt, trivial⟩) (show 2 ≤ 10 by omega) z2L (.inr ⟨by simp, rfl, rfl⟩)
  rintro ex fr ⟨rfl, rfl⟩
  refine KC.of_exec E52ok (p_out l off pk) (pcs_of trivial) (Nat.le_refl _) z2L (KC.done ?_)
  cases pk with
  | nil => exact ⟨by simp, [.bool true], [], [0, 1], 2, by kernel_rfl, by simp, by kernel_rfl, rfl, z2L⟩
  | row of2 cap2 rows => exact ⟨by simp, [.bool true], [], [0, 1], 2, by kernel_rfl, by simp, by kernel_rfl, rfl, z2L⟩
open Dec in
theorem main (c : Cfg) (l : List Int) (off cap : Nat) (pk : Pk) (sl sd by' sn st : Int) (hr : c.Right) (hlen : (l.length : Int) = c.len) (hwf : WfW l) (hg : pk.good) :
    CallC Try.prog fid (args c (some ⟨0, off, none⟩) l.length cap sl sd by' sn st (pk.sv 1)) (plHp l off pk) (.bool true) (plHp l off pk) := by
  have hq : ∀ p ∈ q0 c l off, p := pcs_of ⟨⟨hr, hlen, rfl, rfl⟩, trivial⟩
  have o0 := newM_ok hlen
  by_cases hst : st > 100
  · exact CallC.of_call E52ok (p_long c l off cap pk sl sd by' sn st) (pcs_app hq (pcs_of ⟨decide_eq_true hst, trivial⟩)) rfl z2L
  have bst : decide (st > 100) = false := decide_eq_false hst
  rcases big_or pk with ⟨of2, cap2, rows, rfl, hbig⟩ | ⟨hbig, hpl⟩
  · exact CallC.of_call E52ok (p_big c l off cap sl sd by' sn st of2 cap2 rows) (pcs_app hq (pcs_of ⟨bst, decide_eq_true (by omega), trivial⟩)) rfl z2L
  refine CallC.of_body (E := E52) (ds := []) (fn := fn) 87 (by kernel_rfl) (by kernel_rfl) (by kernel_rfl) (by kernel_rfl) ?_
  refine KC.of_exec (fr := start c l off cap pk sl sd by' sn st [Dec.l, Dec.l, f, dsK pk]) E52ok (p_in c l off cap pk sl sd by' sn st) (pcs_app hq (List.forall_mem_cons.2 ⟨bst, pcs_app hbig (pcs_of trivial)⟩)) (Nat.le_refl _) z2L ?_
  exact loop_C c l off pk sl sd by' sn st hr hg (by omega) (by omega) (newM c l) o0 rfl hwf ⟨show (0 : Int) ≤ 0 by decide, show (0 : Int) ≤ 18446744073709551615 by decide⟩

theorem walk (c : Cfg) (v : Value) (l : List Int) (zs : List Int) (sv : Value) (rows : List (List Int)) (w : World) (hl : RowIn .u64 w v l) (hz : zs.length = 5) (_ : ∀ i, i < 5 → (Lit.int (([.i64, .i64, .i64, .u64, .i64] : List IntKind).getD i .i64) (zs.getD i 0)).wf = true) (hs : RowR pkK w sv rows) :
    Calls Try.prog fid #[c.v, v, .agg ⟨rowV [.i64, .i64, .i64, .u64, .i64] zs ++ [sv]⟩] w fun e w1 => e = .returned (.bool true) ∧ Below w.heap.size w w1 := by
  obtain ⟨sl, sd, by', sn, st, rfl⟩ : ∃ z0 z1 z2 z3 z4, zs = [z0, z1, z2, z3, z4] := by
    match zs, hz with
    | [z0, z1, z2, z3, z4], _ => exact ⟨z0, z1, z2, z3, z4, rfl⟩
  refine law_play2 (E' := E52) (n := 20) E51ok rfl hl hs (fun hr hlen off cap pk hpk => ⟨_, main c l off cap pk sl sd by' sn st hr hlen (row_wf hl) (good_of hs hpk)⟩) (fun hr a m cap pk => ?_) (fun hr a m cap pk hlen => ?_)
  · exact ⟨_, _, p_nr c cap pk sl sd by' sn st a m, pcs_of ⟨by simp [rightB, hr], trivial⟩⟩
  · exact ⟨_, _, p_nl c cap pk sl sd by' sn st a m, pcs_of ⟨by simp [rightB, hr], hr, by simpa using hlen, trivial⟩⟩
end Go.Proofs.Ytmliekdbhefpkaa.JoinOwnsDone
