/- What 'GateTwo' comes to, of any input: its paths. -/
import Derived.Test.YtmliekdbhefpkaaCtPlain3
namespace Go.Proofs.Ytmliekdbhefpkaa.GateTwoDone
open Go Go.Proofs Go.Proofs.Ytmliekdbhefpkaa.Ev Go.Proofs.Ytmliekdbhefpkaa.Ct
open Go.RowKit

noncomputable abbrev fn : Func := Try.f9
abbrev fid : FuncId := 9
inductive Bk where
  | nil
  | row (of2 cap : Nat) (L : List Bool)
def Bk.sv (n : Nat) : Bk → Value
  | .nil => .slice none 0 0
  | .row of2 cap L => .slice (some ⟨n, of2, none⟩) L.length cap
def Bk.blk (n : Nat) : Bk → List (Nat × Blk)
  | .nil => []
  | .row of2 _ L => [(n, .view of2 (.bools L 4))]
def Bk.len : Bk → Nat
  | .nil => 0
  | .row _ _ L => L.length
def iHp (ik : Bk) : Hp := ⟨ik.blk 0, 1, []⟩
abbrev HH (sl : Int) : Int := u64 (w64 (w64 (0 + sl) + 1))
abbrev R2 : Rw := .row true [2]
abbrev R3 : Rw := .row true [2, 3]
abbrev A (c : Cfg) (sl : Int) (ik : Bk) : List Value := [c.v, .int .i64 sl, ik.sv 0]
def bl (ik : Bk) (m : Mm) (a b : En) : List (Nat × Blk) := ik.blk 0 ++ [(1, .cells (m.cells 4) memT), (2, .cells (En.cells (.slice (some ⟨5, 0, some 6⟩) 1 0) a) enT), (3, .cells (En.cells (.slice (some ⟨7, 0, some 8⟩) 2 0) b) enT), (4, .ints .u64 m.w u64T), (5, .own (.ints .i64 [2] intT) 6), (7, .own (.ints .i64 [2, 3] intT) 8)]
def fr (ik : Bk) (m : Mm) (a b : En) (i : Int) (ds : List Dec) : Fr := mkFr 119 [(7, .pointer (some ⟨1, 0, none⟩)), (11, .pointer (some ⟨2, 0, none⟩)), (12, .pointer (some ⟨3, 0, none⟩)), (66, ik.sv 0), (67, .int .i64 ik.len), (68, .int .i64 i)] (bl ik m a b) 9 [] ds
def frM (ik : Bk) (m : Mm) (a b : En) (ds : List Dec) : Fr := mkFr 119 [(7, .pointer (some ⟨1, 0, none⟩)), (11, .pointer (some ⟨2, 0, none⟩)), (12, .pointer (some ⟨3, 0, none⟩))] (bl ik m a b) 9 [] ds
def frE (ik : Bk) (b : Bool) : Fr := mkFr 119 [(6, .bool b)] (ik.blk 0) 1 [] []
abbrev lp : List Nat := [1, 1, 1, 1, 1, 1, 1, 0, 1, 0, 0]
noncomputable abbrev K : List Kt := [.blk 0, .code (bd fn [1, 1, 1, 1, 1, 1, 1, 1])]
def jv (off i : Nat) : Nat := addN off (mulN i 1) - off
theorem jv_eq (off i : Nat) : jv off i = i := by unfold jv; rw [addN_eq, mulN_eq]; omega
def big : Bk → List Prop
  | .nil => []
  | .row _ _ L => [decide ((L.length : Int) > 100) = false]
abbrev dsB : Bk → Dec
  | .nil => Dec.l
  | .row _ _ _ => .f
abbrev M0 (c : Cfg) (sl : Int) : Mm := mSt (nwM c) 4 sl (nwI 2 0)
abbrev e0 (sl : Int) (r : Rw) : En := ⟨tkS (HH sl), 0, HH sl, r, false, false, 0, 0⟩
abbrev lv : List Nat := [7, 11, 12, 66, 67, 68]
abbrev T20 (g : Prop) : Prop := ([.int .i64 20] : List Value) = [.int .i64 (numOf [.int .i64 20])] ∧ numOf [.int .i64 20] ≤ 1000 ∧ g
abbrev T0 (e : En) : Prop := ([] : List Value) = [] ∧ Wd e.h
abbrev RA (a : En) (m : Mm) : Nat × En × Mm := enRun 20 0 (a.wi R2) m
abbrev RB (a b : En) (m : Mm) : Nat × En × Mm := enRun 20 0 (b.wi R3) (RA a m).2.2
def rs (a b : En) (m : Mm) : List Prop := [(1 : Nat) = 1, T20 (enGood (a.wi R2) m), (2 : Nat) = 2, T20 (enGood (b.wi R3) (RA a m).2.2), (1 : Nat) = 1, T0 (RA a m).2.1, (2 : Nat) = 2, T0 (RB a b m).2.1, (1 : Nat) = 1, T0 (RA a m).2.1, ((RA a m).2.1.dn || !ofOk (RA a m).2.1.h (RB a b m).2.2.c.s) = true, (2 : Nat) = 2, T0 (RB a b m).2.1, ((RB a b m).2.1.dn || !ofOk (RB a b m).2.1.h (RB a b m).2.2.c.s) = true]
open Dec in
section
variable (c : Cfg) (sl : Int) (ik : Bk) (m : Mm) (a b : En) (i of2 cap2 : Nat) (L : List Bool)
noncomputable abbrev start (ds : List Dec) : Fr := ⟨A c sl ik ++ List.replicate 116 undef, iHp ik, ds, []⟩
theorem g_in : execR Eg10n 12 .normal [.code (bd fn [])] [0, 2, 9, 14, 3, 7, 8, 12, 13] lv 1 [] (start c sl ik [f, f, Dec.l, Dec.l, Dec.l, Dec.l, Dec.l, f, dsB ik, Dec.l, Dec.l, Dec.l, Dec.l]) = some (.normal, .code (.loop (bd fn lp)) :: K, fr ik (M0 c sl) (e0 sl R2) (e0 sl R3) 0 [],
    [c.Right, decide (sl < 0) = false, decide (sl > 11) = false, decide (sl ≥ c.s) = false] ++ (big ik ++ [NwP 2 0, (nwM c).ok, (8 : Nat) ≤ 140737488355328, (1 : Nat) ≤ 9223372036854775807, Wd (HH sl), (16 : Nat) ≤ 140737488355328, (2 : Nat) ≤ 9223372036854775807, Wd (HH sl)])) := by cases ik <;> kernel_rfl
def rd : List Prop := [decide ((i : Int) < (L.length : Int)) = true, 0 ≤ (i : Int), (i : Int) < (L.length : Int), of2 ≤ addN of2 (mulN i 1), jv of2 i < L.length]
abbrev id9 : List Nat := [0, 1, 2, 3, 4, 5, 6, 7, 8]
theorem b_a : run Eg10n 12 (bd fn lp) id9 lv 1 [] (fr (.row of2 cap2 L) m a b (i : Int) [t, t]) = some (.normal, fr (.row of2 cap2 L) (enMe (a.wi R2) m) (enSt (a.wi R2) m) b (w64 ((i : Int) + 1)) [],
    rd i of2 L ++ [L.getD (jv of2 i) false = true, (1 : Nat) = 1, ([] : List Value) = [] ∧ enGood (a.wi R2) m]) := by kernel_rfl
theorem b_b : run Eg10n 12 (bd fn lp) id9 lv 1 [] (fr (.row of2 cap2 L) m a b (i : Int) [t, f]) = some (.normal, fr (.row of2 cap2 L) (enMe (b.wi R3) m) a (enSt (b.wi R3) m) (w64 ((i : Int) + 1)) [],
    rd i of2 L ++ [L.getD (jv of2 i) false = false, (2 : Nat) = 2, ([] : List Value) = [] ∧ enGood (b.wi R3) m]) := by kernel_rfl
theorem b_0 : run Eg10n 12 (bd fn lp) id9 [7, 11, 12] 1 [] (fr ik m a b (i : Int) [f]) = some (.exit 0, frM ik m a b [], [decide ((i : Int) < (ik.len : Int)) = false]) := by cases ik <;> kernel_rfl
theorem g_o1 : execR Eg10n 12 (.exit 0) K [0] [6] 1 [] (frM ik m a b [Dec.l, t, t, t, t]) = some (.ret, [], frE ik true, rs a b m ++ [(errI (RA a m).2.1 (RB a b m).2.2 == 0) = true, (errI (RB a b m).2.1 (RB a b m).2.2 == 3) = true]) := by cases ik <;> kernel_rfl
theorem g_o2 : execR Eg10n 12 (.exit 0) K [0] [6] 1 [] (frM ik m a b [Dec.l, t, t, f, Dec.l, t]) = some (.ret, [], frE ik (errI (RA a m).2.1 (RB a b m).2.2 == 3), rs a b m ++ [(errI (RA a m).2.1 (RB a b m).2.2 == 0) = false, (errI (RB a b m).2.1 (RB a b m).2.2 == 0) = true]) := by cases ik <;> kernel_rfl
theorem g_0 : callR Eg10n 12 fid (A c sl ik) (iHp ik) ([t] ++ List.replicate 8 Dec.l) [0] = some (.bool true, iHp ik, [c.Right, decide (sl < 0) = true]) := by cases ik <;> kernel_rfl
theorem g_1 : callR Eg10n 12 fid (A c sl ik) (iHp ik) ([f, t] ++ List.replicate 7 Dec.l) [0] = some (.bool true, iHp ik, [c.Right, decide (sl < 0) = false, decide (sl > 11) = true]) := by cases ik <;> kernel_rfl
theorem g_2 : callR Eg10n 12 fid (A c sl ik) (iHp ik) [f, f, Dec.l, Dec.l, Dec.l, Dec.l, Dec.l, t, Dec.l] [0] = some (.bool true, iHp ik, [c.Right, decide (sl < 0) = false, decide (sl > 11) = false, decide (sl ≥ c.s) = true]) := by cases ik <;> kernel_rfl
theorem g_big : callR Eg10n 12 fid (A c sl (.row of2 cap2 L)) (iHp (.row of2 cap2 L)) [f, f, Dec.l, Dec.l, Dec.l, Dec.l, Dec.l, f, t] [0] = some (.bool true, iHp (.row of2 cap2 L), [c.Right, decide (sl < 0) = false, decide (sl > 11) = false, decide (sl ≥ c.s) = false, decide ((L.length : Int) > 100) = true]) := by kernel_rfl
theorem p_n0 : told (doCall Eg10a 20 fid (A c sl ik) ⟨[], 1, []⟩ ([t, Dec.l, t] ++ List.replicate 20 Dec.l)) = some (.bool true, [0 ≤ c.len, 8 * c.len ≤ 281474976710656, c.len ≤ 9223372036854775807, (c.len == 0) = true, decide (sl < 0) = true]) := by cases ik <;> kernel_rfl
theorem p_n1 : told (doCall Eg10a 20 fid (A c sl ik) ⟨[], 1, []⟩ ([t, Dec.l, f, t] ++ List.replicate 20 Dec.l)) = some (.bool true, [0 ≤ c.len, 8 * c.len ≤ 281474976710656, c.len ≤ 9223372036854775807, (c.len == 0) = true, decide (sl < 0) = false, decide (sl > 11) = true]) := by cases ik <;> kernel_rfl
theorem p_n2 : told (doCall Eg10a 20 fid (A c sl ik) ⟨[], 1, []⟩ ([t, Dec.l, f, f] ++ List.replicate 20 Dec.l)) = some (.bool true, [0 ≤ c.len, 8 * c.len ≤ 281474976710656, c.len ≤ 9223372036854775807, (c.len == 0) = true, decide (sl < 0) = false, decide (sl > 11) = false]) := by cases ik <;> kernel_rfl
end
end Go.Proofs.Ytmliekdbhefpkaa.GateTwoDone
