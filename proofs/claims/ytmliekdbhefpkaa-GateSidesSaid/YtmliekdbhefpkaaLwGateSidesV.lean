/- What 'GateSides' comes to, of any input: its paths. -/
import Derived.Test.YtmliekdbhefpkaaCtPlain3
namespace Go.Proofs.Ytmliekdbhefpkaa.GateSidesDone
open Go Go.Proofs Go.Proofs.Ytmliekdbhefpkaa.Ev Go.Proofs.Ytmliekdbhefpkaa.Ct
open Go.RowKit

noncomputable abbrev fn : Func := Try.f10
abbrev fid : FuncId := 10
def _root_.Go.Proofs.Ytmliekdbhefpkaa.Ct.Ik.len : Ik → Nat
  | .nil => 0
  | .row _ _ l => l.length
def iHp (ik : Ik) : Hp := ⟨ik.blk 0, 1, []⟩
abbrev HH (sl : Int) : Int := u64 (w64 (w64 (0 + sl) + 1))
abbrev R2 : Rw := .row true [2]
abbrev A (c : Cfg) (sl : Int) (ik : Ik) : List Value := [c.v, .int .i64 sl, ik.sv 0]
def bl (ik : Ik) (m : Mm) (e : En) (l : Lv) : List (Nat × Blk) := ik.blk 0 ++ [(1, .cells (m.cells 4) memT), (2, .cells (En.cells (.slice (some ⟨5, 0, some 6⟩) 1 0) e) enT), (3, .cells (Lv.cells 0 l) 182), (4, .ints .u64 m.w u64T), (5, .own (.ints .i64 [2] intT) 6)]
def fr (ik : Ik) (sl : Int) (m : Mm) (e : En) (l : Lv) (want i : Int) (ds : List Dec) : Fr := mkFr 132 [(1, .int .i64 sl), (7, .pointer (some ⟨1, 0, none⟩)), (11, .pointer (some ⟨2, 0, none⟩)), (12, .pointer (some ⟨3, 0, none⟩)), (13, .int .u64 want), (68, ik.sv 0), (69, .int .i64 ik.len), (70, .int .i64 i)] (bl ik m e l) 7 [] ds
def frM (ik : Ik) (sl : Int) (m : Mm) (e : En) (l : Lv) (want : Int) (ds : List Dec) : Fr := mkFr 132 [(1, .int .i64 sl), (7, .pointer (some ⟨1, 0, none⟩)), (11, .pointer (some ⟨2, 0, none⟩)), (12, .pointer (some ⟨3, 0, none⟩)), (13, .int .u64 want)] (bl ik m e l) 7 [] ds
def frE (ik : Ik) (b : Bool) : Fr := mkFr 132 [(6, .bool b)] (ik.blk 0) 1 [] []
abbrev lp : List Nat := [1, 1, 1, 1, 1, 1, 1, 1, 0, 1, 0, 0]
noncomputable abbrev K : List Kt := [.blk 0, .code (bd fn [1, 1, 1, 1, 1, 1, 1, 1, 1])]
def jv (off i : Nat) : Nat := addN off (mulN i 1) - off
theorem jv_eq (off i : Nat) : jv off i = i := by unfold jv; rw [addN_eq, mulN_eq]; omega
def big : Ik → List Prop
  | .nil => []
  | .row _ _ L => [decide ((L.length : Int) > 30) = false]
abbrev dsB : Ik → Dec
  | .nil => Dec.l
  | .row _ _ _ => .f
abbrev M0 (c : Cfg) (sl : Int) : Mm := mSt (nwM c) 4 sl (nwI 2 0)
abbrev e0 (sl : Int) : En := ⟨tkS (HH sl), 0, HH sl, R2, false, false, 0, 0⟩
abbrev l0 (sl : Int) : Lv := ⟨sl, 0, 5, false, false⟩
def xs (x : Int) : Int := w64 ((BitVec.ofInt 64 x &&& BitVec.ofInt 64 1).toNat : Int)
def xb (x : Int) : Int := w64 ((BitVec.ofInt 64 (x.fdiv 2) &&& BitVec.ofInt 64 7).toNat : Int)
def vS (sl : Int) (m : Mm) : Int := getW m.w (cellIx m.c 4 sl)
def mP (sl x : Int) (m : Mm) : Mm := mSt (mLd m 4 sl) 4 sl (withI (vS sl m) (xs x) (xb x))
abbrev lv : List Nat := [1, 7, 11, 12, 13, 68, 69, 70]
abbrev T20 (g : Prop) : Prop := ([.int .i64 20] : List Value) = [.int .i64 (numOf [.int .i64 20])] ∧ numOf [.int .i64 20] ≤ 1000 ∧ g
abbrev T0 (e : En) : Prop := ([] : List Value) = [] ∧ Wd e.h
abbrev RE (e : En) (m : Mm) : Nat × En × Mm := enRun 20 0 (e.wi R2) m
abbrev RL (e : En) (l : Lv) (m : Mm) : Nat × Lv × Mm := lvRun 20 0 l (RE e m).2.2
open Dec in
section
variable (c : Cfg) (sl : Int) (ik : Ik) (m : Mm) (e : En) (l : Lv) (want : Int) (i of2 cap2 : Nat) (L : List Int)
noncomputable abbrev start (ds : List Dec) : Fr := ⟨A c sl ik ++ List.replicate 129 undef, iHp ik, ds, []⟩
theorem g_in : execR Eg10n 12 .normal [.code (bd fn [])] [0, 2, 9, 10, 3, 7, 8] lv 1 [] (start c sl ik [f, f, Dec.l, Dec.l, Dec.l, Dec.l, Dec.l, f, dsB ik, Dec.l, Dec.l, Dec.l]) = some (.normal, .code (.loop (bd fn lp)) :: K, fr ik sl (M0 c sl) (e0 sl) (l0 sl) (nwI 5 0) 0 [],
    [c.Right, decide (sl < 0) = false, decide (sl > 11) = false, decide (sl ≥ c.s) = false] ++ (big ik ++ [NwP 2 0, (nwM c).ok, (8 : Nat) ≤ 140737488355328, (1 : Nat) ≤ 9223372036854775807, Wd (HH sl), NwP 5 0])) := by cases ik <;> kernel_rfl
def rd : List Prop := [decide ((i : Int) < (L.length : Int)) = true, 0 ≤ (i : Int), (i : Int) < (L.length : Int), of2 ≤ addN of2 (mulN i 1), jv of2 i < L.length, (0 : Int) ≤ 1, m.ok, Wd (vS sl m), (mLd m 4 sl).ok, Wd want, (1 : Nat) = 1, ([] : List Value) = [] ∧ Wd e.h]
abbrev mI (sl : Int) (m : Mm) (of2 : Nat) (L : List Int) (i : Nat) : Mm := mP sl (L.getD (jv of2 i) 0) m
abbrev wI (want : Int) (of2 : Nat) (L : List Int) (i : Nat) : Int := withI want (xs (L.getD (jv of2 i) 0)) (xb (L.getD (jv of2 i) 0))
abbrev id7 : List Nat := [0, 1, 2, 3, 4, 5, 6]
theorem b_e : run Eg10n 12 (bd fn lp) id7 lv 1 [] (fr (.row of2 cap2 L) sl m e l want (i : Int) [t, t, f]) = some (.normal, fr (.row of2 cap2 L) sl (enMe (e.wi R2) (mI sl m of2 L i)) (enSt (e.wi R2) (mI sl m of2 L i)) l (wI want of2 L i) (w64 ((i : Int) + 1)) [],
    rd sl m e want i of2 L ++ [(!(e.dn || !ofOk e.h (mI sl m of2 L i).c.s)) = true, (1 : Nat) = 1, ([] : List Value) = [] ∧ enGood (e.wi R2) (mI sl m of2 L i), l.dn = false]) := by kernel_rfl
theorem b_l : run Eg10n 12 (bd fn lp) id7 lv 1 [] (fr (.row of2 cap2 L) sl m e l want (i : Int) [t, f, f]) = some (.normal, fr (.row of2 cap2 L) sl (lMe l (mI sl m of2 L i)) e (lSt l (mI sl m of2 L i)) (wI want of2 L i) (w64 ((i : Int) + 1)) [],
    rd sl m e want i of2 L ++ [(!(e.dn || !ofOk e.h (mI sl m of2 L i).c.s)) = false, ([] : List Value) = [] ∧ lGood l (mI sl m of2 L i), (lSt l (mI sl m of2 L i)).dn = false]) := by kernel_rfl
theorem b_x : run Eg10n 12 (bd fn lp) id7 [1, 7, 11, 12, 13] 1 [] (fr (.row of2 cap2 L) sl m e l want (i : Int) [t, f, t]) = some (.exit 0, frM (.row of2 cap2 L) sl (lMe l (mI sl m of2 L i)) e (lSt l (mI sl m of2 L i)) (wI want of2 L i) [],
    rd sl m e want i of2 L ++ [(!(e.dn || !ofOk e.h (mI sl m of2 L i).c.s)) = false, ([] : List Value) = [] ∧ lGood l (mI sl m of2 L i), (lSt l (mI sl m of2 L i)).dn = true]) := by kernel_rfl
theorem b_0 : run Eg10n 12 (bd fn lp) id7 [1, 7, 11, 12, 13] 1 [] (fr ik sl m e l want (i : Int) [f]) = some (.exit 0, frM ik sl m e l want [], [decide ((i : Int) < (ik.len : Int)) = false]) := by cases ik <;> kernel_rfl
theorem g_out : execR Eg10n 12 (.exit 0) K [0] [6] 1 [] (frM ik sl m e l want [Dec.l, t, t]) = some (.ret, [], frE ik (getW (RL e l m).2.2.w (cellIx (RL e l m).2.2.c 4 sl) == want),
    [(1 : Nat) = 1, T20 (enGood (e.wi R2) m), T20 (lGood l (RE e m).2.2), (1 : Nat) = 1, T0 (RE e m).2.1, ((RE e m).2.1.dn || !ofOk (RE e m).2.1.h (RL e l m).2.2.c.s) = true, (RL e l m).2.1.dn = true, (RL e l m).2.2.ok]) := by cases ik <;> kernel_rfl
theorem g_0 : callR Eg10n 12 fid (A c sl ik) (iHp ik) ([t] ++ List.replicate 8 Dec.l) [0] = some (.bool true, iHp ik, [c.Right, decide (sl < 0) = true]) := by cases ik <;> kernel_rfl
theorem g_1 : callR Eg10n 12 fid (A c sl ik) (iHp ik) ([f, t] ++ List.replicate 7 Dec.l) [0] = some (.bool true, iHp ik, [c.Right, decide (sl < 0) = false, decide (sl > 11) = true]) := by cases ik <;> kernel_rfl
theorem g_2 : callR Eg10n 12 fid (A c sl ik) (iHp ik) [f, f, Dec.l, Dec.l, Dec.l, Dec.l, Dec.l, t, Dec.l] [0] = some (.bool true, iHp ik, [c.Right, decide (sl < 0) = false, decide (sl > 11) = false, decide (sl ≥ c.s) = true]) := by cases ik <;> kernel_rfl
theorem g_big : callR Eg10n 12 fid (A c sl (.row of2 cap2 L)) (iHp (.row of2 cap2 L)) [f, f, Dec.l, Dec.l, Dec.l, Dec.l, Dec.l, f, t] [0] = some (.bool true, iHp (.row of2 cap2 L), [c.Right, decide (sl < 0) = false, decide (sl > 11) = false, decide (sl ≥ c.s) = false, decide ((L.length : Int) > 30) = true]) := by kernel_rfl
theorem p_n0 : told (doCall Eg10a 20 fid (A c sl ik) ⟨[], 1, []⟩ ([t, Dec.l, t] ++ List.replicate 20 Dec.l)) = some (.bool true, [0 ≤ c.len, 8 * c.len ≤ 281474976710656, c.len ≤ 9223372036854775807, (c.len == 0) = true, decide (sl < 0) = true]) := by cases ik <;> kernel_rfl
theorem p_n1 : told (doCall Eg10a 20 fid (A c sl ik) ⟨[], 1, []⟩ ([t, Dec.l, f, t] ++ List.replicate 20 Dec.l)) = some (.bool true, [0 ≤ c.len, 8 * c.len ≤ 281474976710656, c.len ≤ 9223372036854775807, (c.len == 0) = true, decide (sl < 0) = false, decide (sl > 11) = true]) := by cases ik <;> kernel_rfl
theorem p_n2 : told (doCall Eg10a 20 fid (A c sl ik) ⟨[], 1, []⟩ ([t, Dec.l, f, f] ++ List.replicate 20 Dec.l)) = some (.bool true, [0 ≤ c.len, 8 * c.len ≤ 281474976710656, c.len ≤ 9223372036854775807, (c.len == 0) = true, decide (sl < 0) = false, decide (sl > 11) = false]) := by cases ik <;> kernel_rfl
end
end Go.Proofs.Ytmliekdbhefpkaa.GateSidesDone
