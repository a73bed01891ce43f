/- What 'OpenTwo' comes to, of any input: its frames. -/
import Derived.Test.YtjkohcdgjlaobaaCtOpenP
namespace Go.Proofs.Ytjkohcdgjlaobaa.OpenTwoDone
open Go Go.Proofs Go.Proofs.Ytjkohcdgjlaobaa.Ev Go.Proofs.Ytjkohcdgjlaobaa.Ct
open Go.RowKit

noncomputable abbrev fn : Func := Try.f4
abbrev fid : FuncId := 4
inductive Bk where
  | nil
  | row (of2 cap : Nat) (L : List Bool)
def Bk.sv (n : Nat) : Bk → Value
  | .nil => .slice none 0 0
  | .row of2 cap L => .slice (some ⟨n, of2, none⟩) L.length cap
def Bk.blk (n : Nat) : Bk → List (Nat × Blk)
  | .nil => []
  | .row of2 _ L => [(n, .view of2 (.bools L 4))]
def Bk.len : Bk → Nat
  | .nil => 0
  | .row _ _ L => L.length
def iHp (ik : Bk) : Hp := ⟨ik.blk 0, 1, []⟩
abbrev A (c : Cfg) (ik : Bk) : List Value := [c.v, ik.sv 0]
def bl (ik : Bk) (c : Cfg) (m : Mm) (a b : Ct.Op) : List (Nat × Blk) := ik.blk 0 ++ [(1, .cells c.cells 24), (2, .cells (m.cells 3) memT), (3, .ints .u64 m.w u64T), (4, .opt [4, 5, 6] (opF 0) a.enc), (5, .opt [4, 5, 6] (opF 1) a.enc), (6, .opt [4, 5, 6] (opF 2) a.enc), (7, .opt [7, 8, 9] (opF 0) b.enc), (8, .opt [7, 8, 9] (opF 1) b.enc), (9, .opt [7, 8, 9] (opF 2) b.enc)]
def fr (ik : Bk) (c : Cfg) (m : Mm) (a b : Ct.Op) (i : Int) (ds : List Dec) : Fr := mkFr 123 [(2, .pointer (some ⟨1, 0, none⟩)), (5, .pointer (some ⟨2, 0, none⟩)), (7, .pointer (some ⟨4, 0, none⟩)), (8, .pointer (some ⟨7, 0, none⟩)), (48, ik.sv 0), (49, .int .i64 ik.len), (50, .int .i64 i)] (bl ik c m a b) 10 [] ds
def frX (ik : Bk) (c : Cfg) (m : Mm) (a b : Ct.Op) (ds : List Dec) : Fr := mkFr 123 [(2, .pointer (some ⟨1, 0, none⟩)), (5, .pointer (some ⟨2, 0, none⟩)), (7, .pointer (some ⟨4, 0, none⟩)), (8, .pointer (some ⟨7, 0, none⟩))] (bl ik c m a b) 10 [] ds
def frE (ik : Bk) (b : Bool) : Fr := mkFr 123 [(4, .bool b)] (ik.blk 0) 1 [] []
abbrev lp : List Nat := [1, 1, 1, 1, 0, 1, 0, 0]
noncomputable abbrev K : List Kt := [.blk 0, .code (bd fn [1, 1, 1, 1, 1])]
abbrev live : List Nat := [2, 5, 7, 8, 48, 49, 50]
abbrev nil0 : Prop := ([] : List Value) = []
abbrev RA (a : Ct.Op) (m : Mm) : Nat × Ct.Op × Mm := opRun 100 0 a m
abbrev RB (a b : Ct.Op) (m : Mm) : Nat × Ct.Op × Mm := opRun 100 0 b (RA a m).2.2
abbrev q100 (o : Ct.Op) (m : Mm) : Prop := ([.int .i64 100] : List Value) = [.int .i64 100] ∧ 100 ≤ 1000 ∧ isOp o.enc ∧ opGood o m
noncomputable abbrev start (c : Cfg) (ik : Bk) (ds : List Dec) : Fr := ⟨A c ik ++ List.replicate 121 undef, iHp ik, ds, []⟩
abbrev dsB : Bk → Dec
  | .nil => Dec.l
  | .row _ _ _ => .f
def big : Bk → List Prop
  | .nil => []
  | .row _ _ L => [decide ((L.length : Int) > 200) = false]
def jv (off i : Nat) : Nat := addN off (mulN i 1) - off
theorem jv_eq (off i : Nat) : jv off i = i := by unfold jv; rw [addN_eq, mulN_eq]; omega
end Go.Proofs.Ytjkohcdgjlaobaa.OpenTwoDone
