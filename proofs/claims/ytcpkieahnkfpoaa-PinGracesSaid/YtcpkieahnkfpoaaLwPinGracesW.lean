/- What 'PinGraces' comes to, of any input: it returns true and changes nothing that was there. -/
import Derived.Test.YtcpkieahnkfpoaaCtPlay2
namespace Go.Proofs.Ytcpkieahnkfpoaa.PinGracesDone
open Go Go.Proofs Go.Proofs.Ytcpkieahnkfpoaa.Ev Go.Proofs.Ytcpkieahnkfpoaa.Ct
open Go.RowKit

noncomputable abbrev fn : Func := Try.f13
abbrev fid : FuncId := 13
def zv (th rt st : Int) (sv : Value) : List Value := [.int .i64 th, .int .u64 rt, .int .i64 st, sv]
def args (c : Cfg) (a : Option Addr) (n cap : Nat) (th rt st : Int) (sv : Value) : List Value := [c.v, .slice a n cap, .agg ⟨zv th rt st sv⟩]
def lim (st : Int) : Int := if st > 0 then st else 0
abbrev dgT : TypeId := 90
def fr (c : Cfg) (l : List Int) (off : Nat) (pk : Pk) (th rt st : Int) (m q : Mm) (g : Gr) (d : Dg) (i : Int) (ds : List Dec) : Fr := mkFr 108 [(3, .pointer (some ⟨2, 0, none⟩)), (5, .pointer (some ⟨3, 0, none⟩)), (7, .pointer (some ⟨4, 0, none⟩)), (8, .pointer (some ⟨8, 0, none⟩)), (10, .pointer (some ⟨9, 0, none⟩)), (11, .pointer (some ⟨10, 0, none⟩)), (66, .int .i64 (lim st)), (67, .int .i64 i)]
  ((0, .view off (.ints .u64 l u64T)) :: (pk.blk 1 ++ [(2, .cells c.cells 24), (3, .cells (zv th rt st (pk.sv 1)) 72), (4, .cells (m.cells 5) memT), (5, .ints .u64 m.w u64T), (6, .view 0 (.ints .u64 q.w u64T)), (8, .cells (q.rcells 6 7) rmT), (9, .cells g.cells grT), (10, .cells d.cells dgT)])) 11 [] ds
def frX (l : List Int) (off : Nat) (pk : Pk) : Fr := mkFr 108 [] (plHp l off pk).blks 2 [] []
def frE (l : List Int) (off : Nat) (pk : Pk) : Fr := mkFr 108 [(6, .bool true)] (plHp l off pk).blks 2 [] []
abbrev lp : List Nat := [1, 1, 1, 1, 1, 1, 0, 1, 0, 0]
noncomputable abbrev K : List Kt := [.blk 0, .code (bd fn [1, 1, 1, 1, 1, 1, 1])]
def q0 (c : Cfg) (l : List Int) (off : Nat) : List Prop := [c.Right ∧ (l.length : Int) = c.len ∧ l.length = l.length ∧ off = off]
def d0 (th rt : Int) : Dg := ⟨th, rt, 0, false⟩
abbrev live : List Nat := [3, 5, 7, 8, 10, 11, 66, 67]
open Dec in
section
variable (c : Cfg) (l : List Int) (off cap : Nat) (pk : Pk) (th rt st : Int) (m : Mm) (g : Gr) (d : Dg) (i : Nat)
noncomputable abbrev start (ds : List Dec) : Fr := ⟨args c (some ⟨0, off, none⟩) l.length cap th rt st (pk.sv 1) ++ List.replicate 105 undef, plHp l off pk, ds, []⟩
abbrev dsN : Pk → List Dec
  | .nil => [Dec.l, Dec.l, f, Dec.l, f, Dec.l]
  | .row _ _ _ => [Dec.l, Dec.l, f, f, f, Dec.l]
theorem pg_in : execR E28 8 .normal [.code (bd fn [])] [0, 1, 2, 3, 4, 5, 6, 7, 8, 9, 10] live 2 [] (start c l off cap pk th rt st (dsN pk)) =
    some (.normal, .code (.loop (bd fn lp)) :: K, fr c l off pk th rt st (newM c l) (newM c l).doc (Gr.new th rt) (d0 th rt) 0 [], q0 c l off ++ ((decide (st > 50) = false) :: (pk.big ++ [(!((Gr.new th rt).done c.t == (d0 th rt).done c.t)) = false]))) := by cases pk <;> kernel_rfl
theorem pg_rd : run E28 8 (bd fn lp) [0, 1, 2, 3, 4, 5, 13, 14, 8, 9, 10] live 2 [] (fr c l off pk th rt st m m.doc g d (i : Int) [t, Dec.l, f, f]) = some (.normal, fr c l off pk th rt st (g.mem (pk.do (i : Int) m)) (d.mem (pk.do (i : Int) m).doc) (g.step (pk.do (i : Int) m)) (d.step (pk.do (i : Int) m).doc) (w64 ((i : Int) + 1)) [],
    (decide ((i : Int) < lim st) = true) :: (pk.pc m ++ [(pk.do (i : Int) m).ok, (pk.do (i : Int) m).doc.ok ∧ (pk.do (i : Int) m).doc.c.Right, (g.mem (pk.do (i : Int) m)).ok, alike (g.mem (pk.do (i : Int) m)) (d.mem (pk.do (i : Int) m).doc), (!((g.step (pk.do (i : Int) m)).done (g.mem (pk.do (i : Int) m)).c.t == (d.step (pk.do (i : Int) m).doc).done c.t)) = false, (!((g.step (pk.do (i : Int) m)).later == (d.step (pk.do (i : Int) m).doc).later)) = false])) := by cases pk <;> kernel_rfl
theorem pg_end : run E28 8 (bd fn lp) [0, 1] [] 2 [] (fr c l off pk th rt st m m.doc g d (i : Int) [f]) = some (.exit 0, frX l off pk, [decide ((i : Int) < lim st) = false]) := by cases pk <;> kernel_rfl
theorem pg_out : execR E28 8 (.exit 0) K [0, 1] [6] 2 [] (frX l off pk) = some (.ret, [], frE l off pk, []) := by cases pk <;> kernel_rfl
theorem pg_long : callR E28 8 fid (args c (some ⟨0, off, none⟩) l.length cap th rt st (pk.sv 1)) (plHp l off pk) [Dec.l, Dec.l, t, Dec.l, Dec.l, Dec.l] [0, 1] = some (.bool true, plHp l off pk, q0 c l off ++ [decide (st > 50) = true]) := by cases pk <;> kernel_rfl
theorem pg_big (of2 cap2 : Nat) (rows : List (List Int)) : callR E28 8 fid (args c (some ⟨0, off, none⟩) l.length cap th rt st (.slice (some ⟨1, of2, none⟩) rows.length cap2)) (plHp l off (.row of2 cap2 rows)) [Dec.l, Dec.l, f, t, Dec.l, Dec.l] [0, 1] = some (.bool true, plHp l off (.row of2 cap2 rows), q0 c l off ++ [decide (st > 50) = false, decide ((rows.length : Int) > 30) = true]) := by kernel_rfl
theorem not_right (a : Option Addr) (n : Nat) : told (doCall E27 20 fid (args c a n cap th rt st (pk.sv 1)) ⟨[], 2, []⟩ (t :: List.replicate 8 Dec.l)) = some (.bool true, [(!rightB c) = true]) := by cases pk <;> kernel_rfl
theorem not_len (a : Option Addr) (n : Nat) : told (doCall E27 20 fid (args c a n cap th rt st (pk.sv 1)) ⟨[], 2, []⟩ (f :: t :: List.replicate 8 Dec.l)) = some (.bool true, [(!rightB c) = false, c.Right, ((n : Int) != c.len) = true]) := by cases pk <;> kernel_rfl
end
theorem same_b {a b : Bool} (h : b = a) : (!(a == b)) = false := by rw [h]; simp
open Dec in
theorem main (c : Cfg) (l : List Int) (off cap : Nat) (pk : Pk) (th rt st : Int) (hr : c.Right) (hlen : (l.length : Int) = c.len) (hwf : WfW l) (hg : pk.good) :
    CallC Try.prog fid (args c (some ⟨0, off, none⟩) l.length cap th rt st (pk.sv 1)) (plHp l off pk) (.bool true) (plHp l off pk) := by
  have hq : ∀ p ∈ q0 c l off, p := pcs_of ⟨⟨hr, hlen, rfl, rfl⟩, trivial⟩
  by_cases hst : st > 50
  · exact CallC.of_call E28ok (pg_long c l off cap pk th rt st) (pcs_app hq (pcs_of ⟨decide_eq_true hst, trivial⟩)) rfl z2L
  have bst : decide (st > 50) = false := decide_eq_false hst
  rcases big_or pk with ⟨of2, cap2, rows, rfl, hbig⟩ | ⟨hbig, hpl⟩
  · exact CallC.of_call E28ok (pg_big c l off cap th rt st of2 cap2 rows) (pcs_app hq (pcs_of ⟨bst, decide_eq_true (by omega), trivial⟩)) rfl z2L
  have hlim : 0 ≤ lim st ∧ lim st ≤ 50 := by unfold lim; split <;> omega
  refine CallC.of_body (E := E28) (ds := dsN pk) (fn := fn) 105 (by kernel_rfl) (by kernel_rfl) (by kernel_rfl) (by kernel_rfl) ?_
  refine KC.of_exec (fr := start c l off cap pk th rt st (dsN pk)) E28ok (pg_in c l off cap pk th rt st) (pcs_app hq (List.forall_mem_cons.2 ⟨bst, pcs_app hbig (pcs_of ⟨same_b ((RelG.new th rt).done c.t), trivial⟩)⟩)) (Nat.le_refl _) z2L ?_
  refine KC.loop (m0 := 2) (ι := Nat × Mm × Gr × Dg) (fun x => fr c l off pk th rt st x.2.1 x.2.1.doc x.2.2.1 x.2.2.2 (x.1 : Int) []) (fun x => (x.1 : Int) ≤ lim st ∧ x.2.1.ok ∧ x.2.1.c = c ∧ WfW x.2.1.w ∧ RelG x.2.2.1 x.2.2.2) (fun x => (lim st).toNat - x.1)
    (fun ex fr => ex = .exit 0 ∧ fr = frX l off pk) (fun x hx => ?_) ?_ (0, newM c l, Gr.new th rt, d0 th rt) ⟨hlim.1, newM_ok hlen, rfl, hwf, RelG.new th rt⟩
  · obtain ⟨i, m, g, d⟩ := x
    obtain ⟨hi, hok, hc, hw, hR⟩ := hx
    simp only at hi hok hc hw hR ⊢
    by_cases hlt : (i : Int) < lim st
    · obtain ⟨d1, d2, _⟩ := pk.do_ok (i : Int) hok
      have dw := Pk.do_wf hg (i : Int) hw
      have hM := hR.mem (pk.do (i : Int) m)
      have hS := hR.step (pk.do (i : Int) m) (pk.do (i : Int) m).doc rfl rfl (fun i => (dw.getW i).1)
      generalize hn : pk.do (i : Int) m = n at *
      have hnc : n.c = c := d2.trans hc
      obtain ⟨g1, g2, g3⟩ := g.mem_ok d1
      have hd0 : n.doc.ok := d1
      have hrd := pg_rd c l off pk th rt st m g d i
      rw [hn] at hrd
      rw [hM] at hrd
      refine CodeC.of_run (fr := fr c l off pk th rt st m m.doc g d (i : Int) [t, Dec.l, f, f]) E28ok hrd (List.forall_mem_cons.2 ⟨decide_eq_true hlt, pcs_app (pk.pc_ok hok (by rw [hc]; exact hr) (by omega)) (pcs_of ⟨d1, ⟨hd0, by show n.c.Right; rw [hnc]; exact hr⟩, g1, ⟨rfl, rfl, rfl, rfl⟩, ?_, same_b hS.later.symm, trivial⟩)⟩) (show 2 ≤ 11 by omega) z2L (.inl ⟨rfl, (i + 1, g.mem n, g.step n, d.step n.doc), by rw [w64_succ i (by omega)], ⟨by simp only; omega, g1, g2.trans hnc, by simp only; rw [g3]; exact dw, hS⟩, by simp only; omega⟩)
      rw [g2, hnc]
      exact same_b (hS.done c.t)
    · exact CodeC.of_run (fr := fr c l off pk th rt st m m.doc g d (i : Int) [f]) E28ok (pg_end c l off pk th rt st m g d i) (pcs_of ⟨decide_eq_false hlt, trivial⟩) (show 2 ≤ 11 by omega) z2L (.inr ⟨by simp, rfl, rfl⟩)
  rintro ex fr ⟨rfl, rfl⟩
  refine KC.of_exec E28ok (pg_out l off pk) (pcs_of trivial) (Nat.le_refl _) z2L (KC.done ?_)
  cases pk with
  | nil => exact ⟨by simp, [.bool true], [], [0, 1], 2, by kernel_rfl, by simp, by kernel_rfl, rfl, z2L⟩
  | row of2 cap2 rows => exact ⟨by simp, [.bool true], [], [0, 1], 2, by kernel_rfl, by simp, by kernel_rfl, rfl, z2L⟩

theorem walk (c : Cfg) (v : Value) (l : List Int) (zs : List Int) (sv : Value) (rows : List (List Int)) (w : World) (hl : RowIn .u64 w v l) (hz : zs.length = 3) (_ : ∀ i, i < 3 → (Lit.int (([.i64, .u64, .i64] : List IntKind).getD i .i64) (zs.getD i 0)).wf = true) (hs : RowR pkK w sv rows) :
    Calls Try.prog fid #[c.v, v, .agg ⟨rowV [.i64, .u64, .i64] zs ++ [sv]⟩] w fun e w1 => e = .returned (.bool true) ∧ Below w.heap.size w w1 := by
  obtain ⟨th, rt, st, rfl⟩ : ∃ a b d, zs = [a, b, d] := by
    match zs, hz with
    | [a, b, d], _ => exact ⟨a, b, d, rfl⟩
  exact law_play2 (E' := E28) E27ok rfl hl hs (fun hr hlen off cap pk hpk => ⟨_, main c l off cap pk th rt st hr hlen (row_wf hl) (good_of hs hpk)⟩)
    (fun hr a m cap pk => ⟨_, _, not_right c cap pk th rt st a m, pcs_of ⟨by simp [rightB, hr], trivial⟩⟩)
    (fun hr a m cap pk hlen => ⟨_, _, not_len c cap pk th rt st a m, pcs_of ⟨by simp [rightB, hr], hr, by simpa using hlen, trivial⟩⟩)
end Go.Proofs.Ytcpkieahnkfpoaa.PinGracesDone
