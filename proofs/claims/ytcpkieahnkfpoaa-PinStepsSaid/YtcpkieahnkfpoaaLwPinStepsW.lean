/- What 'PinSteps' comes to, of any input: it returns true and changes nothing that was there. -/
import Derived.Test.YtcpkieahnkfpoaaCtPlay
namespace Go.Proofs.Ytcpkieahnkfpoaa.PinStepsDone
open Go Go.Proofs Go.Proofs.Ytcpkieahnkfpoaa.Ev Go.Proofs.Ytcpkieahnkfpoaa.Ct
open Go.RowKit

noncomputable abbrev fn : Func := Try.f12
abbrev fid : FuncId := 12
/-- Where a pin is. -/
inductive St where
  | s0
  | s1 (e : Int)
  | s2 (e : Int)
def St.pin (th : Int) (p : Nat) : St → List Value
  | .s0 => [.func (.func 89) ⟨[.pointer (some ⟨p, 0, none⟩)]⟩ ⟨[]⟩, .int .i64 th, .int .u64 0]
  | .s1 e => [.func (.func 101) ⟨[.pointer (some ⟨p, 0, none⟩)]⟩ ⟨[]⟩, .int .i64 th, .int .u64 e]
  | .s2 e => [.nilFunc, .int .i64 th, .int .u64 e]
def St.doc (th : Int) : St → List Value
  | .s0 => [.int .i64 th, .int .u64 0, .int .i64 0]
  | .s1 e => [.int .i64 th, .int .u64 e, .int .i64 1]
  | .s2 _ => [.int .i64 th, .int .u64 0, .int .i64 2]
def St.next (m : Mm) : St → St
  | .s0 => .s1 (getW m.w (cellIx m.c 2 0))
  | .s1 e => .s2 e
  | .s2 e => .s2 e
def St.mem (th : Int) (m : Mm) : St → Mm
  | .s0 => mLd m 2 0
  | .s1 e => mSt m 3 th (u64 (e + 1))
  | .s2 _ => m
def St.nm : St → Nat
  | .s0 => 16
  | .s1 _ => 17
  | .s2 _ => 10
def St.pc (th : Int) (m : Mm) : St → List Prop
  | .s0 => [m.ok, m.doc.ok ∧ m.c.Right, (mLd m 2 0).ok, alike (mLd m 2 0) (mLd m.doc 2 0)]
  | .s1 e => [m.ok, m.doc.ok ∧ m.c.Right, (mSt m 3 th (u64 (e + 1))).ok, alike (mSt m 3 th (u64 (e + 1))) (mSt m.doc 3 th (u64 (e + 1)))]
  | .s2 _ => [m.ok, alike m m.doc]
theorem St.mem_ok (s : St) (th : Int) {m : Mm} (h : m.ok) : (s.mem th m).ok ∧ (s.mem th m).c = m.c := by
  cases s with
  | s0 => exact ⟨acc_ok h rfl, rfl⟩
  | s1 e => exact ⟨acc_ok h (setW_len _ _ _), rfl⟩
  | s2 e => exact ⟨h, rfl⟩
theorem St.pc_ok (s : St) (th : Int) {m : Mm} (h : m.ok) (hr : m.c.Right) : ∀ p ∈ s.pc th m, p := by
  have h0 : m.doc.ok := h
  cases s with
  | s0 => exact pcs_of ⟨h, ⟨h0, hr⟩, acc_ok h rfl, ⟨rfl, rfl, rfl, rfl⟩, trivial⟩
  | s1 e => exact pcs_of ⟨h, ⟨h0, hr⟩, acc_ok h (setW_len _ _ _), ⟨rfl, rfl, rfl, rfl⟩, trivial⟩
  | s2 e => exact pcs_of ⟨h, ⟨rfl, rfl, rfl, rfl⟩, trivial⟩
def zv (th rt st : Int) (sv : Value) : List Value := [.int .i64 th, .int .u64 rt, .int .i64 st, sv]
def args (c : Cfg) (a : Option Addr) (n cap : Nat) (th rt st : Int) (sv : Value) : List Value := [c.v, .slice a n cap, .agg ⟨zv th rt st sv⟩]
def lim (st : Int) : Int := if st > 0 then st else 0
def fr (l : List Int) (off : Nat) (pk : Pk) (th rt st : Int) (m : Mm) (s : St) (i : Int) (ds : List Dec) : Fr := mkFr 95 [(5, .pointer (some ⟨2, 0, none⟩)), (7, .pointer (some ⟨3, 0, none⟩)), (8, .pointer (some ⟨7, 0, none⟩)), (10, .pointer (some ⟨8, 0, none⟩)), (11, .pointer (some ⟨9, 0, none⟩)), (50, .int .i64 (lim st)), (51, .int .i64 i)]
  ((0, .view off (.ints .u64 l u64T)) :: (pk.blk 1 ++ [(2, .cells (zv th rt st (pk.sv 1)) 72), (3, .cells (m.cells 4) memT), (4, .ints .u64 m.w u64T), (5, .view 0 (.ints .u64 m.w u64T)), (7, .cells (m.rcells 5 6) rmT), (8, .cells (s.pin th 8) 147), (9, .cells (s.doc th) 84)])) 10 [] ds
def frX (l : List Int) (off : Nat) (pk : Pk) (th rt st : Int) (m : Mm) (ds : List Dec) : Fr := mkFr 95 [(5, .pointer (some ⟨2, 0, none⟩)), (7, .pointer (some ⟨3, 0, none⟩)), (8, .pointer (some ⟨7, 0, none⟩))]
  ((0, .view off (.ints .u64 l u64T)) :: (pk.blk 1 ++ [(2, .cells (zv th rt st (pk.sv 1)) 72), (3, .cells (m.cells 4) memT), (4, .ints .u64 m.w u64T), (5, .view 0 (.ints .u64 m.w u64T)), (7, .cells (m.rcells 5 6) rmT)])) 8 [] ds
def frE (l : List Int) (off : Nat) (pk : Pk) : Fr := mkFr 95 [(6, .bool true)] (plHp l off pk).blks 2 [] []
abbrev lp : List Nat := [1, 1, 1, 1, 1, 0, 1, 0, 0]
noncomputable abbrev K : List Kt := [.blk 0, .code (bd fn [1, 1, 1, 1, 1, 1])]
def q0 (c : Cfg) (l : List Int) (off : Nat) : List Prop := [c.Right ∧ (l.length : Int) = c.len ∧ l.length = l.length ∧ off = off]
open Dec in
section
variable (c : Cfg) (l : List Int) (off cap : Nat) (pk : Pk) (th rt st : Int) (m : Mm) (s : St) (i : Nat)
noncomputable abbrev start (ds : List Dec) : Fr := ⟨args c (some ⟨0, off, none⟩) l.length cap th rt st (pk.sv 1) ++ List.replicate 92 undef, plHp l off pk, ds, []⟩
abbrev dsN : Pk → List Dec
  | .nil => [Dec.l, Dec.l, f, Dec.l]
  | .row _ _ _ => [Dec.l, Dec.l, f, f]
theorem ps_in : execR E16 8 .normal [.code (bd fn [])] [0, 1, 3, 4, 5, 6, 7, 8, 9, 10] [5, 7, 8, 10, 11, 50, 51] 2 [] (start c l off cap pk th rt st (dsN pk)) =
    some (.normal, .code (.loop (bd fn lp)) :: K, fr l off pk th rt st (newM c l) .s0 0 [], q0 c l off ++ ((decide (st > 50) = false) :: pk.big)) := by cases pk <;> kernel_rfl
theorem ps_rd : run E16 8 (bd fn lp) [0, 1, 2, 3, 4, s.nm, s.nm + 1, 7, 8, 9] [5, 7, 8, 10, 11, 50, 51] 2 [] (fr l off pk th rt st m s (i : Int) (t :: List.replicate 12 Dec.l)) = some (.normal, fr l off pk th rt st (s.mem th (pk.do (i : Int) m)) (s.next (pk.do (i : Int) m)) (w64 ((i : Int) + 1)) [],
    (decide ((i : Int) < lim st) = true) :: (pk.pc m ++ s.pc th (pk.do (i : Int) m))) := by cases pk <;> cases s <;> kernel_rfl
theorem ps_end : run E16 8 (bd fn lp) [0, 1, 2, 3, 4, 5, 6, 7] [5, 7, 8] 2 [] (fr l off pk th rt st m s (i : Int) [f]) = some (.exit 0, frX l off pk th rt st m [], [decide ((i : Int) < lim st) = false]) := by cases pk <;> cases s <;> kernel_rfl
theorem ps_out : execR E16 8 (.exit 0) K [0, 1] [6] 2 [] (frX l off pk th rt st m (List.replicate 8 Dec.l)) = some (.ret, [], frE l off pk, [m.ok, m.doc.ok ∧ m.c.Right, (mSt m 3 th 0).ok, alike (mSt m 3 th 0) (mSt m.doc 3 th 0)]) := by cases pk <;> kernel_rfl
theorem ps_long : callR E16 8 fid (args c (some ⟨0, off, none⟩) l.length cap th rt st (pk.sv 1)) (plHp l off pk) [Dec.l, Dec.l, t, Dec.l, Dec.l, Dec.l] [0, 1] = some (.bool true, plHp l off pk, q0 c l off ++ [decide (st > 50) = true]) := by cases pk <;> kernel_rfl
theorem ps_big (of2 cap2 : Nat) (rows : List (List Int)) : callR E16 8 fid (args c (some ⟨0, off, none⟩) l.length cap th rt st (.slice (some ⟨1, of2, none⟩) rows.length cap2)) (plHp l off (.row of2 cap2 rows)) [Dec.l, Dec.l, f, t, Dec.l, Dec.l] [0, 1] = some (.bool true, plHp l off (.row of2 cap2 rows), q0 c l off ++ [decide (st > 50) = false, decide ((rows.length : Int) > 30) = true]) := by kernel_rfl
theorem not_right (a : Option Addr) (n : Nat) : told (doCall E15 20 fid (args c a n cap th rt st (pk.sv 1)) ⟨[], 2, []⟩ (t :: List.replicate 8 Dec.l)) = some (.bool true, [(!rightB c) = true]) := by cases pk <;> kernel_rfl
theorem not_len (a : Option Addr) (n : Nat) : told (doCall E15 20 fid (args c a n cap th rt st (pk.sv 1)) ⟨[], 2, []⟩ (f :: t :: List.replicate 8 Dec.l)) = some (.bool true, [(!rightB c) = false, c.Right, ((n : Int) != c.len) = true]) := by cases pk <;> kernel_rfl
end
open Dec in
theorem main (c : Cfg) (l : List Int) (off cap : Nat) (pk : Pk) (th rt st : Int) (hr : c.Right) (hlen : (l.length : Int) = c.len) :
    CallC Try.prog fid (args c (some ⟨0, off, none⟩) l.length cap th rt st (pk.sv 1)) (plHp l off pk) (.bool true) (plHp l off pk) := by
  have hq : ∀ p ∈ q0 c l off, p := pcs_of ⟨⟨hr, hlen, rfl, rfl⟩, trivial⟩
  by_cases hst : st > 50
  · exact CallC.of_call E16ok (ps_long c l off cap pk th rt st) (pcs_app hq (pcs_of ⟨decide_eq_true hst, trivial⟩)) rfl z2L
  have bst : decide (st > 50) = false := decide_eq_false hst
  rcases big_or pk with ⟨of2, cap2, rows, rfl, hbig⟩ | ⟨hbig, hpl⟩
  · exact CallC.of_call E16ok (ps_big c l off cap th rt st of2 cap2 rows) (pcs_app hq (pcs_of ⟨bst, decide_eq_true (by omega), trivial⟩)) rfl z2L
  have hlim : 0 ≤ lim st ∧ lim st ≤ 50 := by unfold lim; split <;> omega
  refine CallC.of_body (E := E16) (ds := dsN pk) (fn := fn) 92 (by kernel_rfl) (by kernel_rfl) (by kernel_rfl) (by kernel_rfl) ?_
  refine KC.of_exec (fr := start c l off cap pk th rt st (dsN pk)) E16ok (ps_in c l off cap pk th rt st) (pcs_app hq (List.forall_mem_cons.2 ⟨bst, hbig⟩)) (Nat.le_refl _) z2L ?_
  refine KC.loop (m0 := 2) (ι := Nat × Mm × St) (fun x => fr l off pk th rt st x.2.1 x.2.2 (x.1 : Int) []) (fun x => (x.1 : Int) ≤ lim st ∧ x.2.1.ok ∧ x.2.1.c.Right) (fun x => (lim st).toNat - x.1)
    (fun ex fr => ex = .exit 0 ∧ ∃ m : Mm, m.ok ∧ m.c.Right ∧ fr = frX l off pk th rt st m []) (fun x hx => ?_) ?_ (0, newM c l, .s0) ⟨hlim.1, newM_ok hlen, hr⟩
  · obtain ⟨i, m, s⟩ := x
    obtain ⟨hi, hok, hcr⟩ := hx
    simp only at hi hok hcr ⊢
    by_cases hlt : (i : Int) < lim st
    · obtain ⟨d1, d2, _⟩ := pk.do_ok (i : Int) hok
      have hcr' : (pk.do (i : Int) m).c.Right := by rw [d2]; exact hcr
      obtain ⟨e1, e2⟩ := s.mem_ok th d1
      exact CodeC.of_run (fr := fr l off pk th rt st m s (i : Int) (t :: List.replicate 12 Dec.l)) E16ok (ps_rd l off pk th rt st m s i) (List.forall_mem_cons.2 ⟨decide_eq_true hlt, pcs_app (pk.pc_ok hok hcr (by omega)) (s.pc_ok th d1 hcr')⟩) (show 2 ≤ 10 by omega) z2L (.inl ⟨rfl, (i + 1, s.mem th (pk.do (i : Int) m), s.next (pk.do (i : Int) m)), by rw [w64_succ i (by omega)], ⟨by simp only; omega, e1, by rw [e2]; exact hcr'⟩, by simp only; omega⟩)
    · exact CodeC.of_run (fr := fr l off pk th rt st m s (i : Int) [f]) E16ok (ps_end l off pk th rt st m s i) (pcs_of ⟨decide_eq_false hlt, trivial⟩) (show 2 ≤ 10 by omega) z2L (.inr ⟨by simp, rfl, m, hok, hcr, rfl⟩)
  rintro ex fr ⟨rfl, m, hok, hcr, rfl⟩
  have h0 : m.doc.ok := hok
  refine KC.of_exec (fr := frX l off pk th rt st m (List.replicate 8 Dec.l)) E16ok (ps_out l off pk th rt st m) (pcs_of ⟨hok, ⟨h0, hcr⟩, acc_ok hok (setW_len _ _ _), ⟨rfl, rfl, rfl, rfl⟩, trivial⟩) (show 2 ≤ 8 by omega) z2L (KC.done ?_)
  cases pk with
  | nil => exact ⟨by simp, [.bool true], [], [0, 1], 2, by kernel_rfl, by simp, by kernel_rfl, rfl, z2L⟩
  | row of2 cap2 rows => exact ⟨by simp, [.bool true], [], [0, 1], 2, by kernel_rfl, by simp, by kernel_rfl, rfl, z2L⟩

theorem walk (c : Cfg) (v : Value) (l : List Int) (zs : List Int) (sv : Value) (rows : List (List Int)) (w : World) (hl : RowIn .u64 w v l) (hz : zs.length = 3) (_ : ∀ i, i < 3 → (Lit.int (([.i64, .u64, .i64] : List IntKind).getD i .i64) (zs.getD i 0)).wf = true) (hs : RowR pkK w sv rows) :
    Calls Try.prog fid #[c.v, v, .agg ⟨rowV [.i64, .u64, .i64] zs ++ [sv]⟩] w fun e w1 => e = .returned (.bool true) ∧ Below w.heap.size w w1 := by
  obtain ⟨th, rt, st, rfl⟩ : ∃ a b d, zs = [a, b, d] := by
    match zs, hz with
    | [a, b, d], _ => exact ⟨a, b, d, rfl⟩
  exact law_play (E' := E16) E15ok rfl hl hs (fun hr hlen off cap pk => ⟨_, main c l off cap pk th rt st hr hlen⟩)
    (fun hr a m cap pk => ⟨_, _, not_right c cap pk th rt st a m, pcs_of ⟨by simp [rightB, hr], trivial⟩⟩)
    (fun hr a m cap pk hlen => ⟨_, _, not_len c cap pk th rt st a m, pcs_of ⟨by simp [rightB, hr], hr, by simpa using hlen, trivial⟩⟩)
end Go.Proofs.Ytcpkieahnkfpoaa.PinStepsDone
