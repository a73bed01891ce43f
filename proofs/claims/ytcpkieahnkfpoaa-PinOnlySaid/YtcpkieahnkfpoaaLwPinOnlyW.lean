/- What 'PinOnly' comes to, of any input: it returns true and changes nothing that was there. -/
import Derived.Test.YtcpkieahnkfpoaaCtGraced
namespace Go.Proofs.Ytcpkieahnkfpoaa.PinOnlyDone
open Go Go.Proofs Go.Proofs.Ytcpkieahnkfpoaa.Ev Go.Proofs.Ytcpkieahnkfpoaa.Ct
open Go.RowKit

noncomputable abbrev fn : Func := Try.f16
abbrev fid : FuncId := 16
def zv (th rt st : Int) (sv : Value) : List Value := [.int .i64 th, .int .u64 rt, .int .i64 st, sv]
def args (c : Cfg) (a : Option Addr) (n cap : Nat) (th rt st : Int) (sv : Value) : List Value := [c.v, .slice a n cap, .agg ⟨zv th rt st sv⟩]
def fr (c : Cfg) (l : List Int) (off cap : Nat) (pk : Pk) (th rt st : Int) (N : Nat) (wp wf : List Int) (i : Int) (ds : List Dec) : Fr := mkFr 96 [(1, .slice (some ⟨0, off, none⟩) l.length cap), (3, .pointer (some ⟨2, 0, none⟩)), (5, .pointer (some ⟨3, 0, none⟩)), (11, .slice (some ⟨4, 0, none⟩) N N), (55, .slice (some ⟨5, 0, none⟩) N N), (56, .int .i64 N), (57, .int .i64 i)]
  ((0, .view off (.ints .u64 l u64T)) :: (pk.blk 1 ++ [(2, .cells c.cells 24), (3, .cells (zv th rt st (pk.sv 1)) 72), (4, .ints .u64 wp u64T), (5, .ints .u64 wf u64T)])) 6 [] ds
def frX (l : List Int) (off : Nat) (pk : Pk) : Fr := mkFr 96 [] (plHp l off pk).blks 2 [] []
def frE (l : List Int) (off : Nat) (pk : Pk) : Fr := mkFr 96 [(6, .bool true)] (plHp l off pk).blks 2 [] []
abbrev lp : List Nat := [1, 1, 1, 1, 1, 1, 1, 1, 1, 0, 1, 0, 0]
noncomputable abbrev K : List Kt := [.blk 0, .code (bd fn [1, 1, 1, 1, 1, 1, 1, 1, 1, 1])]
def jv (off i : Nat) : Nat := addN off (mulN i 1) - off
theorem jv_eq (off i : Nat) : jv off i = i := by unfold jv; rw [addN_eq, mulN_eq]; omega
def m1 (c : Cfg) (l : List Int) : Mm := mLd (newM c l) 2 0
def m2 (c : Cfg) (l : List Int) (th : Int) : Mm := mSt (m1 c l) 3 th (u64 (getW l (cellIx c 2 0) + 1))
def m3 (c : Cfg) (l : List Int) (th rt : Int) : Mm := (itG c.t.toNat (Gr.new th rt) (m2 c l th)).2
def m4 (c : Cfg) (l : List Int) (th rt : Int) : Mm := mSt (m3 c l th rt) 3 th 0
def ownB (c : Cfg) (th : Int) (i : Nat) : Bool := andL [kindAt c i == 3, numAt c i == th]
open Dec in
section
variable (c : Cfg) (l : List Int) (off cap : Nat) (pk : Pk) (th rt st : Int) (wp wf : List Int) (i : Nat)
noncomputable abbrev start (ds : List Dec) : Fr := ⟨args c (some ⟨0, off, none⟩) l.length cap th rt st (pk.sv 1) ++ List.replicate 93 undef, plHp l off pk, ds, []⟩
theorem po_in : execR E20 8 .normal [.code (bd fn [])] [0, 1, 2, 3, 11, 13] [1, 3, 5, 11, 55, 56, 57] 2 [] (start c l off cap pk th rt st (List.replicate 10 Dec.l)) =
    some (.normal, .code (.loop (bd fn lp)) :: K, fr c l off cap pk th rt st (m3 c l th rt).N (m3 c l th rt).w (m4 c l th rt).w 0 [], [c.Right ∧ (l.length : Int) = c.len ∧ l.length = l.length ∧ off = off, (newM c l).ok, (m1 c l).ok, (m2 c l th).ok ∧ c.t ≤ 8 ∧ 0 ≤ c.t, (m3 c l th rt).ok, (m3 c l th rt).ok, (m4 c l th rt).ok]) := by cases pk <;> kernel_rfl
def rdA (wf : List Int) (N i : Nat) : List Prop := [decide ((i : Int) < (N : Int)) = true, 0 ≤ (i : Int), (i : Int) < (N : Int), i < wf.length]
theorem po_no : run E20 8 (bd fn lp) [0, 1, 2, 3, 4, 5] [1, 3, 5, 11, 55, 56, 57] 2 [] (fr c l off cap pk th rt st l.length wp wf (i : Int) [t, t, f, f, f, Dec.l]) = some (.normal, fr c l off cap pk th rt st l.length wp wf (w64 ((i : Int) + 1)) [],
    rdA wf l.length i ++ [c.Right ∧ 0 ≤ (i : Int) ∧ (i : Int) < c.len, (!ownB c th i) = true, 0 ≤ (i : Int), (i : Int) < (l.length : Int), off ≤ addN off (mulN i 1), jv off i < l.length, (wf.getD i 0 != l.getD (jv off i) 0) = false, 0 ≤ (i : Int), (i : Int) < (l.length : Int), i < wp.length, (wp.getD i 0 != wf.getD i 0) = false, ownB c th i = false]) := by cases pk <;> kernel_rfl
theorem po_own : run E20 8 (bd fn lp) [0, 1, 2, 3, 4, 5] [1, 3, 5, 11, 55, 56, 57] 2 [] (fr c l off cap pk th rt st l.length wp wf (i : Int) [t, f, Dec.l, t, f]) = some (.normal, fr c l off cap pk th rt st l.length wp wf (w64 ((i : Int) + 1)) [],
    rdA wf l.length i ++ [c.Right ∧ 0 ≤ (i : Int) ∧ (i : Int) < c.len, (!ownB c th i) = false, ownB c th i = true, (wf.getD i 0 != 0) = false]) := by cases pk <;> kernel_rfl
theorem po_end : run E20 8 (bd fn lp) [0, 1] [] 2 [] (fr c l off cap pk th rt st l.length wp wf (i : Int) [f]) = some (.exit 0, frX l off pk, [decide ((i : Int) < (l.length : Int)) = false]) := by cases pk <;> kernel_rfl
theorem po_out : execR E20 8 (.exit 0) K [0, 1] [6] 2 [] (frX l off pk) = some (.ret, [], frE l off pk, []) := by cases pk <;> kernel_rfl
theorem not_right (a : Option Addr) (n : Nat) : told (doCall E19 20 fid (args c a n cap th rt st (pk.sv 1)) ⟨[], 2, []⟩ (t :: List.replicate 8 Dec.l)) = some (.bool true, [(!rightB c) = true]) := by cases pk <;> kernel_rfl
theorem not_len (a : Option Addr) (n : Nat) : told (doCall E19 20 fid (args c a n cap th rt st (pk.sv 1)) ⟨[], 2, []⟩ (f :: t :: List.replicate 8 Dec.l)) = some (.bool true, [(!rightB c) = false, c.Right, ((n : Int) != c.len) = true]) := by cases pk <;> kernel_rfl
end
open Dec in
theorem main (c : Cfg) (l : List Int) (off cap : Nat) (pk : Pk) (th rt st : Int) (hr : c.Right) (hlen : (l.length : Int) = c.len) :
    CallC Try.prog fid (args c (some ⟨0, off, none⟩) l.length cap th rt st (pk.sv 1)) (plHp l off pk) (.bool true) (plHp l off pk) := by
  have hr' := hr
  unfold Cfg.Right at hr'
  have hcl := Cfg.len_in hr
  have o0 := newM_ok hlen
  have o1 : (m1 c l).ok := acc_ok o0 rfl
  have o2 : (m2 c l th).ok := acc_ok o1 (setW_len _ _ _)
  obtain ⟨o3, c3, w3⟩ := itG_ok c.t.toNat (Gr.new th rt) _ o2
  have c3' : (m3 c l th rt).c = c := c3
  have o4 : (m4 c l th rt).ok := acc_ok o3 (setW_len _ _ _)
  have e2 : (m2 c l th).w = setW l (cellIx c 3 th) (u64 (getW l (cellIx c 2 0) + 1)) := rfl
  have e3 : (m3 c l th rt).w = (m2 c l th).w := w3
  have e4 : (m4 c l th rt).w = setW (m3 c l th rt).w (cellIx c 3 th) 0 := by
    show setW (m3 c l th rt).w (cellIx (m3 c l th rt).c 3 th) 0 = _
    rw [c3']
  have l3 : (m3 c l th rt).w.length = l.length := by rw [e3, e2, setW_len]
  have l4 : (m4 c l th rt).w.length = l.length := by rw [e4, setW_len, l3]
  have n3 : (m3 c l th rt).N = l.length := o3.1.trans l3
  refine CallC.of_body (E := E20) (ds := List.replicate 10 Dec.l) (fn := fn) 93 (by kernel_rfl) (by kernel_rfl) (by kernel_rfl) (by kernel_rfl) ?_
  refine KC.of_exec (fr := start c l off cap pk th rt st (List.replicate 10 Dec.l)) E20ok (po_in c l off cap pk th rt st) (pcs_of ⟨⟨hr, hlen, rfl, rfl⟩, o0, o1, ⟨o2, by omega, by omega⟩, o3, o3, o4, trivial⟩) (Nat.le_refl _) z2L ?_
  rw [n3]
  generalize hp : (m3 c l th rt).w = wp at *
  generalize hf : (m4 c l th rt).w = wf at *
  have hno : ∀ i : Nat, cellIx c 3 th ≠ (i : Int) → wf.getD i 0 = l.getD i 0 ∧ wp.getD i 0 = wf.getD i 0 := fun i hi => by
    have h1 : wf.getD i 0 = wp.getD i 0 := Classical.byContradiction fun h => by
      rw [e4] at h
      exact hi (setW_getD h)
    have h2 : wp.getD i 0 = l.getD i 0 := Classical.byContradiction fun h => by
      rw [e3, e2] at h
      exact hi (setW_getD h)
    exact ⟨h1.trans h2, h1.symm⟩
  refine KC.loop (m0 := 2) (ι := Nat) (fun i => fr c l off cap pk th rt st l.length wp wf (i : Int) []) (fun i => i ≤ l.length) (fun i => l.length - i)
    (fun ex fr => ex = .exit 0 ∧ fr = frX l off pk) (fun i hi => ?_) ?_ 0 (Nat.zero_le _)
  · by_cases hlt : i < l.length
    · have hrd : ∀ p ∈ rdA wf l.length i, p := pcs_of ⟨decide_eq_true (by omega), by omega, by omega, by omega, trivial⟩
      cases ho : ownB c th i
      · have hix : cellIx c 3 th ≠ (i : Int) := fun e => by
          obtain ⟨q1, q2⟩ := at_cellIx e (by omega)
          rw [ownB, q1, q2] at ho
          simp [andL] at ho
        obtain ⟨h1, h2⟩ := hno i hix
        exact CodeC.of_run (fr := fr c l off cap pk th rt st l.length wp wf (i : Int) [t, t, f, f, f, Dec.l]) E20ok (po_no c l off cap pk th rt st wp wf i) (pcs_app hrd (pcs_of ⟨⟨hr, by omega, by omega⟩, by rw [ho]; rfl, by omega, by omega, by rw [addN_eq]; omega, by rw [jv_eq]; exact hlt, by rw [jv_eq, h1]; exact bne_self_eq_false _, by omega, by omega, by omega, by rw [h2]; exact bne_self_eq_false _, ho, trivial⟩)) (show 2 ≤ 6 by omega) z2L (.inl ⟨rfl, i + 1, by rw [w64_succ i (by omega)], hlt, by omega⟩)
      · have hk : kindAt c i = 3 ∧ numAt c i = th := by
          rw [ownB] at ho
          simpa [andL] using ho
        have hix : cellIx c 3 th = (i : Int) := by
          have := cellIx_at hr (k := (i : Int)) (by omega) (by omega)
          rw [hk.1, hk.2] at this
          exact this
        have hz : wf.getD i 0 = 0 := by
          rw [e4, setW_in (by omega), show (cellIx c 3 th).toNat = i by omega]
          exact get_set_self (by omega) _
        exact CodeC.of_run (fr := fr c l off cap pk th rt st l.length wp wf (i : Int) [t, f, Dec.l, t, f]) E20ok (po_own c l off cap pk th rt st wp wf i) (pcs_app hrd (pcs_of ⟨⟨hr, by omega, by omega⟩, by rw [ho]; rfl, ho, by rw [hz]; rfl, trivial⟩)) (show 2 ≤ 6 by omega) z2L (.inl ⟨rfl, i + 1, by rw [w64_succ i (by omega)], hlt, by omega⟩)
    · exact CodeC.of_run (fr := fr c l off cap pk th rt st l.length wp wf (i : Int) [f]) E20ok (po_end c l off cap pk th rt st wp wf i) (pcs_of ⟨decide_eq_false (by omega), trivial⟩) (show 2 ≤ 6 by omega) z2L (.inr ⟨by simp, rfl, rfl⟩)
  rintro ex fr ⟨rfl, rfl⟩
  refine KC.of_exec E20ok (po_out l off pk) (pcs_of trivial) (Nat.le_refl _) z2L (KC.done ?_)
  cases pk with
  | nil => exact ⟨by simp, [.bool true], [], [0, 1], 2, by kernel_rfl, by simp, by kernel_rfl, rfl, z2L⟩
  | row of2 cap2 rows => exact ⟨by simp, [.bool true], [], [0, 1], 2, by kernel_rfl, by simp, by kernel_rfl, rfl, z2L⟩

theorem walk (c : Cfg) (v : Value) (l : List Int) (zs : List Int) (sv : Value) (rows : List (List Int)) (w : World) (hl : RowIn .u64 w v l) (hz : zs.length = 3) (_ : ∀ i, i < 3 → (Lit.int (([.i64, .u64, .i64] : List IntKind).getD i .i64) (zs.getD i 0)).wf = true) (hs : RowR pkK w sv rows) :
    Calls Try.prog fid #[c.v, v, .agg ⟨rowV [.i64, .u64, .i64] zs ++ [sv]⟩] w fun e w1 => e = .returned (.bool true) ∧ Below w.heap.size w w1 := by
  obtain ⟨th, rt, st, rfl⟩ : ∃ a b d, zs = [a, b, d] := by
    match zs, hz with
    | [a, b, d], _ => exact ⟨a, b, d, rfl⟩
  exact law_play (E' := E20) E19ok rfl hl hs (fun hr hlen off cap pk => ⟨_, main c l off cap pk th rt st hr hlen⟩)
    (fun hr a m cap pk => ⟨_, _, not_right c cap pk th rt st a m, pcs_of ⟨by simp [rightB, hr], trivial⟩⟩)
    (fun hr a m cap pk hlen => ⟨_, _, not_len c cap pk th rt st a m, pcs_of ⟨by simp [rightB, hr], hr, by simpa using hlen, trivial⟩⟩)
end Go.Proofs.Ytcpkieahnkfpoaa.PinOnlyDone
