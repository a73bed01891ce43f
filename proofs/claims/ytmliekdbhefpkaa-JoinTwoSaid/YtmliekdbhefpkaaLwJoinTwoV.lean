/- What 'JoinTwo' comes to, of any input: its paths. -/
import Derived.Test.YtmliekdbhefpkaaCtPackJ
import Derived.Test.YtmliekdbhefpkaaCtPlain2
namespace Go.Proofs.Ytmliekdbhefpkaa.JoinTwoDone
open Go Go.Proofs Go.Proofs.Ytmliekdbhefpkaa.Ev Go.Proofs.Ytmliekdbhefpkaa.Ct
open Go.RowKit

noncomputable abbrev fn : Func := Try.f4
abbrev fid : FuncId := 4
inductive Bk where
  | nil
  | row (of2 cap : Nat) (L : List Bool)
def Bk.sv (n : Nat) : Bk → Value
  | .nil => .slice none 0 0
  | .row of2 cap L => .slice (some ⟨n, of2, none⟩) L.length cap
def Bk.blk (n : Nat) : Bk → List (Nat × Blk)
  | .nil => []
  | .row of2 _ L => [(n, .view of2 (.bools L 4))]
def Bk.len : Bk → Nat
  | .nil => 0
  | .row _ _ L => L.length
def iHp (ik : Bk) : Hp := ⟨ik.blk 0, 1, []⟩
abbrev tv (za zb : Int) (bk : Bk) : List Value := [.int .i64 za, .int .i64 zb, bk.sv 0]
abbrev A (c : Cfg) (p : Ps) (za zb : Int) (bk : Bk) : List Value := [c.v, p.v, .agg ⟨tv za zb bk⟩]
def bl (bk : Bk) (za zb : Int) (m : Mm) (a b : Jn) (o : On) : List (Nat × Blk) := bk.blk 0 ++ [(1, .cells (tv za zb bk) 29), (2, .cells (m.cells 6) memT), (3, .cells (Jn.cells 3 a) 155), (4, .cells (Jn.cells 4 b) 155), (5, .cells (On.cells 5 o) 158), (6, .ints .u64 m.w u64T)]
def tm0 (w : Int) : List (Nat × Value) := [(5, .pointer (some ⟨1, 0, none⟩)), (7, .pointer (some ⟨2, 0, none⟩)), (9, .int .u64 w), (11, .pointer (some ⟨3, 0, none⟩)), (12, .pointer (some ⟨4, 0, none⟩)), (13, .pointer (some ⟨5, 0, none⟩))]
def fr (bk : Bk) (za zb : Int) (m : Mm) (a b : Jn) (o : On) (w i : Int) (ds : List Dec) : Fr := mkFr 135 (tm0 w ++ [(73, bk.sv 0), (74, .int .i64 bk.len), (75, .int .i64 i)]) (bl bk za zb m a b o) 7 [] ds
def frM (bk : Bk) (za zb : Int) (m : Mm) (a b : Jn) (o : On) (w : Int) (ds : List Dec) : Fr := mkFr 135 (tm0 w) (bl bk za zb m a b o) 7 [] ds
def frE (bk : Bk) (b : Bool) : Fr := mkFr 135 [(6, .bool b)] (bk.blk 0) 1 [] []
abbrev lp : List Nat := [1, 1, 1, 1, 1, 1, 1, 1, 0, 1, 0, 0]
noncomputable abbrev K : List Kt := [.blk 0, .code (bd fn [1, 1, 1, 1, 1, 1, 1, 1, 1])]
def jv (off i : Nat) : Nat := addN off (mulN i 1) - off
theorem jv_eq (off i : Nat) : jv off i = i := by unfold jv; rw [addN_eq, mulN_eq]; omega
def big : Bk → List Prop
  | .nil => []
  | .row _ _ L => [decide ((L.length : Int) > 100) = false]
abbrev dsB : Bk → Dec
  | .nil => Dec.l
  | .row _ _ _ => .f
abbrev p2 (p : Ps) : Ps := ⟨p.gen, 2, p.bz, p.ip, p.op, p.inn, p.out⟩
def x7 (x : Int) : Int := w64 ((BitVec.ofInt 64 x &&& BitVec.ofInt 64 7).toNat : Int)
abbrev M0 (c : Cfg) (p : Ps) : Mm := mSt (nwM c) 4 0 (pkW (p2 p))
abbrev j0 (sd z : Int) : Jn := ⟨0, sd, x7 z, 0, lookF, 5, 0⟩
abbrev o0 : On := ⟨0, 0, 7, 0, false, false⟩
abbrev lv : List Nat := [5, 7, 9, 11, 12, 13, 73, 74, 75]
abbrev T50 (g : Prop) : Prop := ([.int .i64 50] : List Value) = [.int .i64 (numOf [.int .i64 50])] ∧ numOf [.int .i64 50] ≤ 1000 ∧ g
abbrev T0 (g : Prop) : Prop := ([] : List Value) = [] ∧ g
abbrev RA (a : Jn) (m : Mm) : Nat × Jn × Mm := jrRun 50 0 a m
abbrev RB (a b : Jn) (m : Mm) : Nat × Jn × Mm := jrRun 50 0 b (RA a m).2.2
abbrev RO (a b : Jn) (o : On) (m : Mm) : Nat × On × Mm := owRun 50 0 o (RB a b m).2.2
abbrev w1 (w za : Int) : Int := withI w 0 (x7 za)
abbrev w2 (w za zb : Int) : Int := withI (w1 w za) 1 (x7 zb)
abbrev w3 (w za zb : Int) : Int := withI (w2 w za zb) 0 7
open Dec in
section
variable (c : Cfg) (p : Ps) (za zb : Int) (bk : Bk) (m : Mm) (a b : Jn) (o : On) (w : Int) (i of2 cap2 : Nat) (L : List Bool)
noncomputable abbrev start (ds : List Dec) : Fr := ⟨A c p za zb bk ++ List.replicate 132 undef, iHp bk, ds, []⟩
theorem g_in : execR E53p 12 .normal [.code (bd fn [])] [0, 3, 4, 7, 8, 9, 5] lv 1 [] (start c p za zb bk [Dec.l, Dec.l, f, dsB bk, Dec.l, Dec.l, Dec.l]) = some (.normal, .code (.loop (bd fn lp)) :: K, fr bk za zb (M0 c p) (j0 0 za) (j0 1 zb) o0 (pkW (p2 p)) 0 [], [c.Right, (!pkOk (p2 p)) = false] ++ (big bk ++ [(nwM c).ok])) := by cases bk <;> kernel_rfl
theorem g_no : callR E53p 12 fid (A c p za zb bk) (iHp bk) [Dec.l, Dec.l, t, Dec.l] [0] = some (.bool true, iHp bk, [c.Right, (!pkOk (p2 p)) = true]) := by cases bk <;> kernel_rfl
theorem g_big : callR E53p 12 fid (A c p za zb (.row of2 cap2 L)) (iHp (.row of2 cap2 L)) [Dec.l, Dec.l, f, t] [0] = some (.bool true, iHp (.row of2 cap2 L), [c.Right, (!pkOk (p2 p)) = false, decide ((L.length : Int) > 100) = true]) := by kernel_rfl
theorem g_nr : told (doCall E51p 20 fid (A c p za zb bk) ⟨[], 1, []⟩ ([t, Dec.l] ++ List.replicate 30 Dec.l)) = some (.bool true, [0 ≤ c.len, 8 * c.len ≤ 281474976710656, c.len ≤ 9223372036854775807, (c.len == 0) = true]) := by cases bk <;> kernel_rfl
def rd : List Prop := [decide ((i : Int) < (L.length : Int)) = true, 0 ≤ (i : Int), (i : Int) < (L.length : Int), of2 ≤ addN of2 (mulN i 1), jv of2 i < L.length]
abbrev id7 : List Nat := [0, 1, 2, 3, 4, 5, 6]
theorem b_t : run E53p 12 (bd fn lp) id7 lv 1 [] (fr (.row of2 cap2 L) za zb m a b o w (i : Int) [t, t]) = some (.normal, fr (.row of2 cap2 L) za zb (jMe a m) (jSt a m) b o w (w64 ((i : Int) + 1)) [], rd i of2 L ++ [L.getD (jv of2 i) false = true, T0 (jGood a m)]) := by kernel_rfl
theorem b_f : run E53p 12 (bd fn lp) id7 lv 1 [] (fr (.row of2 cap2 L) za zb m a b o w (i : Int) [t, f]) = some (.normal, fr (.row of2 cap2 L) za zb (oMe o (jMe b m)) a (jSt b m) (oSt o (jMe b m)) w (w64 ((i : Int) + 1)) [], rd i of2 L ++ [L.getD (jv of2 i) false = false, T0 (jGood b m), T0 (oGood o (jMe b m))]) := by kernel_rfl
theorem b_0 : run E53p 12 (bd fn lp) id7 [5, 7, 9, 11, 12, 13] 1 [] (fr bk za zb m a b o w (i : Int) [f]) = some (.exit 0, frM bk za zb m a b o w [], [decide ((i : Int) < (bk.len : Int)) = false]) := by cases bk <;> kernel_rfl
theorem g_out : execR E53p 12 (.exit 0) K [0] [6] 1 [] (frM bk za zb m a b o w [Dec.l, t, t, t]) = some (.ret, [], frE bk (getW (RO a b o m).2.2.w (cellIx (RO a b o m).2.2.c 4 0) == w3 w za zb),
    [T50 (jGood a m), T50 (jGood b (RA a m).2.2), T50 (oGood o (RB a b m).2.2), Wd w, Wd (w1 w za), Wd (w2 w za zb), ((RA a m).2.1.r == 2) = true, ((RB a b m).2.1.r == 2) = true, (RO a b o m).2.1.dn = true, (RO a b o m).2.2.ok]) := by cases bk <;> kernel_rfl
end
end Go.Proofs.Ytmliekdbhefpkaa.JoinTwoDone
