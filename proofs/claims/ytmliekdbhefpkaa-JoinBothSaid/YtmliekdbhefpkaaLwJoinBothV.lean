/- What 'JoinBoth' comes to, of any input: its paths. -/
import Derived.Test.YtmliekdbhefpkaaCtPackJ
import Derived.Test.YtmliekdbhefpkaaCtAnyJ
namespace Go.Proofs.Ytmliekdbhefpkaa.JoinBothDone
open Go Go.Proofs Go.Proofs.Ytmliekdbhefpkaa.Ev Go.Proofs.Ytmliekdbhefpkaa.Ct
open Go.RowKit

noncomputable abbrev fn : Func := Try.f3
abbrev fid : FuncId := 3
inductive Bk where
  | nil
  | row (of2 cap : Nat) (L : List Bool)
def Bk.sv (n : Nat) : Bk → Value
  | .nil => .slice none 0 0
  | .row of2 cap L => .slice (some ⟨n, of2, none⟩) L.length cap
def Bk.blk (n : Nat) : Bk → List (Nat × Blk)
  | .nil => []
  | .row of2 _ L => [(n, .view of2 (.bools L 4))]
def Bk.len : Bk → Nat
  | .nil => 0
  | .row _ _ L => L.length
def iHp (ik : Bk) : Hp := ⟨ik.blk 0, 1, []⟩
abbrev tv (za zb : Int) (bk : Bk) : List Value := [.int .i64 za, .int .i64 zb, bk.sv 0]
abbrev A (c : Cfg) (p : Ps) (za zb : Int) (bk : Bk) : List Value := [c.v, p.v, .agg ⟨tv za zb bk⟩]
def bl (bk : Bk) (za zb : Int) (m : Mm) (a b : Jn) : List (Nat × Blk) := bk.blk 0 ++ [(1, .cells (tv za zb bk) 29), (2, .cells (m.cells 5) memT), (3, .cells (Jn.cells 3 a) 155), (4, .cells (Jn.cells 4 b) 155), (5, .ints .u64 m.w u64T)]
def tm0 : List (Nat × Value) := [(5, .pointer (some ⟨1, 0, none⟩)), (7, .pointer (some ⟨2, 0, none⟩)), (11, .pointer (some ⟨3, 0, none⟩)), (12, .pointer (some ⟨4, 0, none⟩))]
def fr (bk : Bk) (za zb : Int) (m : Mm) (a b : Jn) (i : Int) (ds : List Dec) : Fr := mkFr 168 (tm0 ++ [(87, bk.sv 0), (88, .int .i64 bk.len), (89, .int .i64 i)]) (bl bk za zb m a b) 6 [] ds
def frM (bk : Bk) (za zb : Int) (m : Mm) (a b : Jn) (ds : List Dec) : Fr := mkFr 168 tm0 (bl bk za zb m a b) 6 [] ds
def frE (bk : Bk) (b : Bool) : Fr := mkFr 168 [(6, .bool b)] (bk.blk 0) 1 [] []
abbrev lp : List Nat := [1, 1, 1, 1, 1, 1, 1, 1, 0, 1, 0, 0]
noncomputable abbrev K : List Kt := [.blk 0, .code (bd fn [1, 1, 1, 1, 1, 1, 1, 1, 1])]
def jv (off i : Nat) : Nat := addN off (mulN i 1) - off
theorem jv_eq (off i : Nat) : jv off i = i := by unfold jv; rw [addN_eq, mulN_eq]; omega
def big : Bk → List Prop
  | .nil => []
  | .row _ _ L => [decide ((L.length : Int) > 100) = false]
abbrev dsB : Bk → Dec
  | .nil => Dec.l
  | .row _ _ _ => .f
def x7 (x : Int) : Int := w64 ((BitVec.ofInt 64 x &&& BitVec.ofInt 64 7).toNat : Int)
abbrev M0 (c : Cfg) (p : Ps) : Mm := mSt (mSt (nwM c) 4 0 (pkW p)) 6 0 9
abbrev j0 (sd z : Int) : Jn := ⟨0, sd, x7 z, 0, lookF, 5, 0⟩
abbrev lv : List Nat := [5, 7, 11, 12, 87, 88, 89]
abbrev T50 (g : Prop) : Prop := ([.int .i64 50] : List Value) = [.int .i64 (numOf [.int .i64 50])] ∧ numOf [.int .i64 50] ≤ 1000 ∧ g
abbrev T0 (g : Prop) : Prop := ([] : List Value) = [] ∧ g
abbrev RA (a : Jn) (m : Mm) : Nat × Jn × Mm := jrRun 50 0 a m
abbrev RB (a b : Jn) (m : Mm) : Nat × Jn × Mm := jrRun 50 0 b (RA a m).2.2
abbrev V (a b : Jn) (m : Mm) : Int := getW (RB a b m).2.2.w (cellIx (RB a b m).2.2.c 4 0)
/-- What is told of the state (three, or four), and of the sides. -/
def stD : Bool → List Dec
  | true => [.f, .l]
  | false => [.t, .f]
def stP (p : Ps) : Bool → List Prop
  | true => [(p.st != 3) = false]
  | false => [(p.st != 3) = true, (p.st != 4) = false]
def anD : Bool → List Dec
  | true => [.t, .f]
  | false => [.f, .l]
def anP (w : Int) : Bool → List Prop
  | true => [Wd w, anyI w 0 = true, Wd w, anyI w 1 = false]
  | false => [Wd w, anyI w 0 = false]
open Dec in
section
variable (c : Cfg) (p : Ps) (za zb : Int) (bk : Bk) (m : Mm) (a b : Jn) (s3 a0 : Bool) (i of2 cap2 : Nat) (L : List Bool)
noncomputable abbrev start (ds : List Dec) : Fr := ⟨A c p za zb bk ++ List.replicate 165 undef, iHp bk, ds, []⟩
theorem g_in : execR E53p 12 .normal [.code (bd fn [])] [0, 3, 4, 8, 9, 5] lv 1 [] (start c p za zb bk ([Dec.l, Dec.l, f, dsB bk] ++ (stD s3 ++ (anD a0 ++ [Dec.l, Dec.l])))) = some (.normal, .code (.loop (bd fn lp)) :: K, fr bk za zb (M0 c p) (j0 0 za) (j0 1 zb) 0 [], [c.Right, (!pkOk p) = false] ++ (big bk ++ (stP p s3 ++ (anP (pkW p) a0 ++ [(nwM c).ok, (mSt (nwM c) 4 0 (pkW p)).ok])))) := by cases bk <;> cases s3 <;> cases a0 <;> kernel_rfl
theorem g_no : callR E53p 12 fid (A c p za zb bk) (iHp bk) [Dec.l, Dec.l, t, Dec.l, Dec.l, Dec.l] [0] = some (.bool true, iHp bk, [c.Right, (!pkOk p) = true]) := by cases bk <;> kernel_rfl
theorem g_big : callR E53p 12 fid (A c p za zb (.row of2 cap2 L)) (iHp (.row of2 cap2 L)) [Dec.l, Dec.l, f, t, Dec.l, Dec.l] [0] = some (.bool true, iHp (.row of2 cap2 L), [c.Right, (!pkOk p) = false, decide ((L.length : Int) > 100) = true]) := by kernel_rfl
theorem g_st : callR E53p 12 fid (A c p za zb bk) (iHp bk) [Dec.l, Dec.l, f, dsB bk, t, t, Dec.l] [0] = some (.bool true, iHp bk, [c.Right, (!pkOk p) = false] ++ (big bk ++ [(p.st != 3) = true, (p.st != 4) = true])) := by cases bk <;> kernel_rfl
theorem g_bo : callR E53p 12 fid (A c p za zb bk) (iHp bk) ([Dec.l, Dec.l, f, dsB bk] ++ (stD s3 ++ [t, t])) [0] = some (.bool true, iHp bk, [c.Right, (!pkOk p) = false] ++ (big bk ++ (stP p s3 ++ [Wd (pkW p), anyI (pkW p) 0 = true, Wd (pkW p), anyI (pkW p) 1 = true]))) := by cases bk <;> cases s3 <;> kernel_rfl
theorem g_nr : told (doCall E51p 20 fid (A c p za zb bk) ⟨[], 1, []⟩ ([t, Dec.l] ++ List.replicate 30 Dec.l)) = some (.bool true, [0 ≤ c.len, 8 * c.len ≤ 281474976710656, c.len ≤ 9223372036854775807, (c.len == 0) = true]) := by cases bk <;> kernel_rfl
def rd : List Prop := [decide ((i : Int) < (L.length : Int)) = true, 0 ≤ (i : Int), (i : Int) < (L.length : Int), of2 ≤ addN of2 (mulN i 1), jv of2 i < L.length]
abbrev id6 : List Nat := [0, 1, 2, 3, 4, 5]
theorem b_t : run E53p 12 (bd fn lp) id6 lv 1 [] (fr (.row of2 cap2 L) za zb m a b (i : Int) [t, t]) = some (.normal, fr (.row of2 cap2 L) za zb (jMe a m) (jSt a m) b (w64 ((i : Int) + 1)) [], rd i of2 L ++ [L.getD (jv of2 i) false = true, T0 (jGood a m)]) := by kernel_rfl
theorem b_f : run E53p 12 (bd fn lp) id6 lv 1 [] (fr (.row of2 cap2 L) za zb m a b (i : Int) [t, f]) = some (.normal, fr (.row of2 cap2 L) za zb (jMe b m) a (jSt b m) (w64 ((i : Int) + 1)) [], rd i of2 L ++ [L.getD (jv of2 i) false = false, T0 (jGood b m)]) := by kernel_rfl
theorem b_0 : run E53p 12 (bd fn lp) id6 [5, 7, 11, 12] 1 [] (fr bk za zb m a b (i : Int) [f]) = some (.exit 0, frM bk za zb m a b [], [decide ((i : Int) < (bk.len : Int)) = false]) := by cases bk <;> kernel_rfl
def o1 (a b : Jn) (m : Mm) : List Prop := [T50 (jGood a m), T50 (jGood b (RA a m).2.2), (RB a b m).2.2.ok]
abbrev x (a : Jn) (m : Mm) : Int := (RA a m).2.1.r
abbrev y (a b : Jn) (m : Mm) : Int := (RB a b m).2.1.r
def oz (a b : Jn) (m : Mm) (za : Int) : List Prop := [Wd (V a b m), ((x a m == 2) == hasI (V a b m) 0 (x7 za)) = true, Wd (V a b m)]
theorem o_23 : execR E53p 12 (.exit 0) K [0] [6] 1 [] (frM bk za zb m a b (anD a0 ++ [Dec.l, t, Dec.l, f, t, t, t, t])) = some (.ret, [], frE bk ((y a b m == 2) == hasI (V a b m) 1 (x7 zb)), o1 a b m ++ (anP (V a b m) a0 ++ ([(x a m == 2) = true, (y a b m == 2) = false, (y a b m == 3) = true, (x a m == 2) = true, (!(y a b m == 2)) = true] ++ oz a b m za))) := by cases bk <;> cases a0 <;> kernel_rfl
theorem o_32 : execR E53p 12 (.exit 0) K [0] [6] 1 [] (frM bk za zb m a b (anD a0 ++ [Dec.l, f, t, t, Dec.l, f, Dec.l, t])) = some (.ret, [], frE bk ((y a b m == 2) == hasI (V a b m) 1 (x7 zb)), o1 a b m ++ (anP (V a b m) a0 ++ ([(x a m == 2) = false, (x a m == 3) = true, (y a b m == 2) = true, (x a m == 2) = false] ++ oz a b m za))) := by cases bk <;> cases a0 <;> kernel_rfl
theorem o_33 : execR E53p 12 (.exit 0) K [0] [6] 1 [] (frM bk za zb m a b (anD a0 ++ [Dec.l, f, t, f, t, f, Dec.l, t])) = some (.ret, [], frE bk ((y a b m == 2) == hasI (V a b m) 1 (x7 zb)), o1 a b m ++ (anP (V a b m) a0 ++ ([(x a m == 2) = false, (x a m == 3) = true, (y a b m == 2) = false, (y a b m == 3) = true, (x a m == 2) = false] ++ oz a b m za))) := by cases bk <;> cases a0 <;> kernel_rfl
end
end Go.Proofs.Ytmliekdbhefpkaa.JoinBothDone
