/- What 'HelpSides' comes to, of any input: it returns true and changes nothing that was there. -/
import Derived.Test.YtcpkieahnkfpoaaCtEnds20
namespace Go.Proofs.Ytcpkieahnkfpoaa.HelpSidesDone
open Go Go.Proofs Go.Proofs.Ytcpkieahnkfpoaa.Ev Go.Proofs.Ytcpkieahnkfpoaa.Ct
open Go.RowKit

noncomputable abbrev fn : Func := Try.f15
abbrev fid : FuncId := 15
noncomputable abbrev E : Env := N20.E32
theorem Eok : EnvOk E := N20.E32ok
abbrev hpr := @N20.hpr
abbrev hStep := @N20.hStep
abbrev hRun := @N20.hRun
abbrev Hk := N20.Hk
inductive Ik where
  | nil
  | row (of2 cap : Nat) (L : List Int)
def Ik.sv (n : Nat) : Ik → Value
  | .nil => .slice none 0 0
  | .row of2 cap L => .slice (some ⟨n, of2, none⟩) L.length cap
def Ik.blk (n : Nat) : Ik → List (Nat × Blk)
  | .nil => []
  | .row of2 _ L => [(n, .view of2 (.ints .i64 L 3))]
def Ik.len : Ik → Nat
  | .nil => 0
  | .row _ _ L => L.length
def iHp (ik : Ik) : Hp := ⟨ik.blk 0, 1, []⟩
def wT (sl : Int) : Int := u64 (w64 (w64 (112 + sl) + 1))
def args (c : Cfg) (sl : Int) (sv : Value) : List Value := [c.v, .int .i64 sl, sv]
def bl (ik : Ik) (sl : Int) (m : Mm) (k : Hk) (s : Int) : List (Nat × Blk) := ik.blk 0 ++ [(1, .cells (m.cells 2) memT), (2, .ints .u64 m.w u64T), (3, .cells (hpr (wT sl) k s) N20.hlT)]
def fr (ik : Ik) (sl : Int) (m : Mm) (k : Hk) (s want i : Int) (ds : List Dec) : Fr := mkFr 113 [(1, .int .i64 sl), (7, .pointer (some ⟨1, 0, none⟩)), (10, .pointer (some ⟨3, 0, none⟩)), (11, .int .u64 want), (60, ik.sv 0), (61, .int .i64 ik.len), (62, .int .i64 i)] (bl ik sl m k s) 4 [] ds
def frM (ik : Ik) (sl : Int) (m : Mm) (k : Hk) (s want : Int) (ds : List Dec) : Fr := mkFr 113 [(1, .int .i64 sl), (7, .pointer (some ⟨1, 0, none⟩)), (10, .pointer (some ⟨3, 0, none⟩)), (11, .int .u64 want)] (bl ik sl m k s) 4 [] ds
def frE (ik : Ik) (b : Bool) : Fr := mkFr 113 [(6, .bool b)] (ik.blk 0) 1 [] []
abbrev lp : List Nat := [1, 1, 1, 1, 1, 1, 1, 1, 1, 0, 1, 0, 0]
noncomputable abbrev K : List Kt := [.blk 0, .code (bd fn [1, 1, 1, 1, 1, 1, 1, 1, 1, 1])]
def jv (off i : Nat) : Nat := addN off (mulN i 1) - off
theorem jv_eq (off i : Nat) : jv off i = i := by unfold jv; rw [addN_eq, mulN_eq]; omega
def Ik.big : Ik → List Prop
  | .nil => []
  | .row _ _ L => [decide ((L.length : Int) > 20) = false]
abbrev dsB : Ik → Dec
  | .nil => Dec.l
  | .row _ _ _ => .f
def M0 (c : Cfg) (sl : Int) : Mm := mSt (mSt (nwM c) 1 0 (wT sl)) 4 sl (nwI 3 0)
def xs (x : Int) : Int := w64 ((BitVec.ofInt 64 x &&& BitVec.ofInt 64 1).toNat : Int)
def vS (sl : Int) (m : Mm) : Int := getW m.w (cellIx m.c 4 sl)
def mP (sl x : Int) (m : Mm) : Mm := mSt (mLd m 4 sl) 4 sl (withI (vS sl m) (xs x) sl)
abbrev lv : List Nat := [1, 7, 10, 11, 60, 61, 62]
open Dec in
section
variable (c : Cfg) (sl : Int) (ik : Ik) (m : Mm) (k : Hk) (s want : Int) (i of2 cap2 : Nat) (L : List Int)
noncomputable abbrev start (ds : List Dec) : Fr := ⟨args c sl (ik.sv 0) ++ List.replicate 110 undef, iHp ik, ds, []⟩
theorem hs_in : execR E 12 .normal [.code (bd fn [])] [0, 2, 3, 6] lv 1 [] (start c sl ik [Dec.l, Dec.l, f, f, dsB ik, t, Dec.l]) = some (.normal, .code (.loop (bd fn lp)) :: K, fr ik sl (M0 c sl) .num 0 (nwI 4 0) 0 [],
    [c.Right, decide (sl < 0) = false, decide (sl ≥ c.s) = false] ++ (ik.big ++ [(nwM c).ok, NwP 3 0, (mSt (nwM c) 1 0 (wT sl)).ok, decide (pendB (wT sl) ≥ 0) = true, NwP 4 0])) := by cases ik <;> kernel_rfl
def ld (sl : Int) (m : Mm) (want : Int) (of2 : Nat) (L : List Int) (i : Nat) : List Prop := [decide ((i : Int) < (L.length : Int)) = true, 0 ≤ (i : Int), (i : Int) < (L.length : Int), of2 ≤ addN of2 (mulN i 1), jv of2 i < L.length, m.ok, Wd (vS sl m), (mLd m 4 sl).ok, Wd want]
abbrev mI (sl : Int) (m : Mm) (of2 : Nat) (L : List Int) (i : Nat) : Mm := mP sl (L.getD (jv of2 i) 0) m
abbrev wI (sl want : Int) (of2 : Nat) (L : List Int) (i : Nat) : Int := withI want (xs (L.getD (jv of2 i) 0)) sl
abbrev id4 : List Nat := [0, 1, 2, 3]
theorem a_num : run E 12 (bd fn lp) id4 lv 1 [] (fr (.row of2 cap2 L) sl m .num s want (i : Int) ([t, Dec.l] ++ List.replicate 6 Dec.l)) = some (.normal, fr (.row of2 cap2 L) sl (N20.hNum (wT sl) (mI sl m of2 L i)) .look s (wI sl want of2 L i) (w64 ((i : Int) + 1)) [], ld sl m want of2 L i ++ [(mI sl m of2 L i).ok]) := by kernel_rfl
theorem a_lkt : run E 12 (bd fn lp) id4 lv 1 [] (fr (.row of2 cap2 L) sl m .look s want (i : Int) ([t, Dec.l] ++ [Dec.l, t])) = some (.normal, fr (.row of2 cap2 L) sl (N20.hLook (wT sl) (mI sl m of2 L i)) .lay (N20.lookV (wT sl) (mI sl m of2 L i)) (wI sl want of2 L i) (w64 ((i : Int) + 1)) [], ld sl m want of2 L i ++ [(mI sl m of2 L i).ok, (stB (N20.lookV (wT sl) (mI sl m of2 L i)) == 3) = true]) := by kernel_rfl
theorem a_lkf : run E 12 (bd fn lp) id4 lv 1 [] (fr (.row of2 cap2 L) sl m .look s want (i : Int) ([t, Dec.l] ++ [Dec.l, f])) = some (.normal, fr (.row of2 cap2 L) sl (N20.hLook (wT sl) (mI sl m of2 L i)) .set (N20.lookV (wT sl) (mI sl m of2 L i)) (wI sl want of2 L i) (w64 ((i : Int) + 1)) [], ld sl m want of2 L i ++ [(mI sl m of2 L i).ok, (stB (N20.lookV (wT sl) (mI sl m of2 L i)) == 3) = false]) := by kernel_rfl
theorem a_lyt : run E 12 (bd fn lp) id4 lv 1 [] (fr (.row of2 cap2 L) sl m .lay s want (i : Int) ([t, Dec.l] ++ [Dec.l, t])) = some (.normal, fr (.row of2 cap2 L) sl (N20.hLay (wT sl) s (mI sl m of2 L i)) .set s (wI sl want of2 L i) (w64 ((i : Int) + 1)) [], ld sl m want of2 L i ++ [(mI sl m of2 L i).ok, dnS (mI sl m of2 L i) 4 (pendB (wT sl)) s = true]) := by kernel_rfl
theorem a_lyf : run E 12 (bd fn lp) id4 lv 1 [] (fr (.row of2 cap2 L) sl m .lay s want (i : Int) ([t, Dec.l] ++ [Dec.l, f])) = some (.normal, fr (.row of2 cap2 L) sl (N20.hLay (wT sl) s (mI sl m of2 L i)) .look s (wI sl want of2 L i) (w64 ((i : Int) + 1)) [], ld sl m want of2 L i ++ [(mI sl m of2 L i).ok, dnS (mI sl m of2 L i) 4 (pendB (wT sl)) s = false]) := by kernel_rfl
theorem a_set : run E 12 (bd fn lp) id4 lv 1 [] (fr (.row of2 cap2 L) sl m .set s want (i : Int) ([t, Dec.l] ++ List.replicate 6 Dec.l)) = some (.normal, fr (.row of2 cap2 L) sl (N20.hSet (wT sl) (mI sl m of2 L i)) .fin s (wI sl want of2 L i) (w64 ((i : Int) + 1)) [], ld sl m want of2 L i ++ [(mI sl m of2 L i).ok]) := by kernel_rfl
def e0 (of2 : Nat) (L : List Int) (i : Nat) : List Prop := [decide ((i : Int) < (L.length : Int)) = true, 0 ≤ (i : Int), (i : Int) < (L.length : Int), of2 ≤ addN of2 (mulN i 1), jv of2 i < L.length]
theorem a_fin : run E 12 (bd fn lp) id4 [1, 7, 10, 11] 1 [] (fr (.row of2 cap2 L) sl m .fin s want (i : Int) [t, Dec.l]) = some (.exit 0, frM (.row of2 cap2 L) sl m .fin s want [], e0 of2 L i) := by kernel_rfl
theorem hs_e : run E 12 (bd fn lp) id4 [1, 7, 10, 11] 1 [] (fr ik sl m k s want (i : Int) [f]) = some (.exit 0, frM ik sl m k s want [], [decide ((i : Int) < (ik.len : Int)) = false]) := by cases ik <;> cases k <;> kernel_rfl
abbrev MR (sl : Int) (k : Hk) (s : Int) (m : Mm) : Mm := (hRun (wT sl) 20 0 k s m).2.2.2
theorem hs_out : execR E 12 (.exit 0) K [0] [6] 1 [] (frM ik sl m k s want [Dec.l, Dec.l, t]) = some (.ret, [], frE ik (getW (mLd (MR sl k s m) 4 sl).w (cellIx (MR sl k s m).c 6 sl) == 7),
    [m.ok ∧ seqB (wT sl) = seqB (wT sl) ∧ pendB (wT sl) = pendB (wT sl) ∧ (hRun (wT sl) 20 0 k s m).2.1 = .fin, (MR sl k s m).ok, (getW (MR sl k s m).w (cellIx (MR sl k s m).c 4 sl) == want) = true, (mLd (MR sl k s m) 4 sl).ok]) := by cases ik <;> cases k <;> kernel_rfl
theorem hs_lo : callR E 12 fid (args c sl (ik.sv 0)) (iHp ik) ([Dec.l, Dec.l, t, Dec.l, Dec.l, Dec.l]) [0] = some (.bool true, iHp ik, [c.Right, decide (sl < 0) = true]) := by cases ik <;> kernel_rfl
theorem hs_hi : callR E 12 fid (args c sl (ik.sv 0)) (iHp ik) ([Dec.l, Dec.l, f, t, Dec.l, Dec.l]) [0] = some (.bool true, iHp ik, [c.Right, decide (sl < 0) = false, decide (sl ≥ c.s) = true]) := by cases ik <;> kernel_rfl
theorem hs_big : callR E 12 fid (args c sl ((Ik.row of2 cap2 L).sv 0)) (iHp (.row of2 cap2 L)) ([Dec.l, Dec.l, f, f, t, Dec.l]) [0] = some (.bool true, iHp (.row of2 cap2 L), [c.Right, decide (sl < 0) = false, decide (sl ≥ c.s) = false, decide ((L.length : Int) > 20) = true]) := by kernel_rfl
end
end Go.Proofs.Ytcpkieahnkfpoaa.HelpSidesDone
