/- What 'OpenSeen' comes to, of any input: its frames. -/
import Derived.Test.YtjkohcdgjlaobaaCtOpenP
namespace Go.Proofs.Ytjkohcdgjlaobaa.OpenSeenDone
open Go Go.Proofs Go.Proofs.Ytjkohcdgjlaobaa.Ev Go.Proofs.Ytjkohcdgjlaobaa.Ct
open Go.RowKit

noncomputable abbrev fn : Func := Try.f6
abbrev fid : FuncId := 6
inductive Ik where
  | nil
  | row (of1 cap : Nat) (l : List Int)
def Ik.sv (n : Nat) : Ik → Value
  | .nil => .slice none 0 0
  | .row of1 cap l => .slice (some ⟨n, of1, none⟩) l.length cap
def Ik.blk (n : Nat) : Ik → List (Nat × Blk)
  | .nil => []
  | .row of1 _ l => [(n, .view of1 (.ints .i64 l 3))]
def Ik.len : Ik → Nat
  | .nil => 0
  | .row _ _ l => l.length
def iHp (ik : Ik) : Hp := ⟨ik.blk 0, 1, []⟩
abbrev A (c : Cfg) (q : Int) (ik : Ik) : List Value := [c.v, .int .u64 q, ik.sv 0]
def bl (ik : Ik) (m : Mm) (o : Ct.Op) : List (Nat × Blk) := ik.blk 0 ++ [(1, .cells (m.cells 2) memT), (2, .ints .u64 m.w u64T), (3, .opt [3, 4, 5] (opF 0) o.enc), (4, .opt [3, 4, 5] (opF 1) o.enc), (5, .opt [3, 4, 5] (opF 2) o.enc)]
def fr (ik : Ik) (q : Int) (m : Mm) (o : Ct.Op) (now i : Int) (ds : List Dec) : Fr := mkFr 107 [(1, .int .u64 q), (7, .pointer (some ⟨1, 0, none⟩)), (9, .pointer (some ⟨3, 0, none⟩)), (10, .int .u64 now), (50, ik.sv 0), (51, .int .i64 ik.len), (52, .int .i64 i)] (bl ik m o) 6 [] ds
def frX (ik : Ik) (q : Int) (m : Mm) (o : Ct.Op) (now : Int) (ds : List Dec) : Fr := mkFr 107 [(1, .int .u64 q), (7, .pointer (some ⟨1, 0, none⟩)), (9, .pointer (some ⟨3, 0, none⟩)), (10, .int .u64 now)] (bl ik m o) 6 [] ds
def frE (ik : Ik) (b : Bool) : Fr := mkFr 107 [(6, .bool b)] (ik.blk 0) 1 [] []
abbrev lp : List Nat := [1, 1, 1, 1, 1, 1, 0, 1, 0, 0]
noncomputable abbrev K : List Kt := [.blk 0, .code (bd fn [1, 1, 1, 1, 1, 1, 1])]
abbrev live : List Nat := [1, 7, 9, 10, 50, 51, 52]
abbrev nil0 : Prop := ([] : List Value) = []
abbrev RR (o : Ct.Op) (m : Mm) : Nat × Ct.Op × Mm := opRun 100 0 o m
abbrev q100 (o : Ct.Op) (m : Mm) : Prop := ([.int .i64 100] : List Value) = [.int .i64 100] ∧ 100 ≤ 1000 ∧ isOp o.enc ∧ opGood o m
noncomputable abbrev start (c : Cfg) (q : Int) (ik : Ik) (ds : List Dec) : Fr := ⟨A c q ik ++ List.replicate 104 undef, iHp ik, ds, []⟩
abbrev dsB : Ik → Dec
  | .nil => Dec.l
  | .row _ _ _ => .f
def big : Ik → List Prop
  | .nil => []
  | .row _ _ L => [decide ((L.length : Int) > 50) = false]
def jv (off i : Nat) : Nat := addN off (mulN i 1) - off
theorem jv_eq (off i : Nat) : jv off i = i := by unfold jv; rw [addN_eq, mulN_eq]; omega
def andI (x : Int) : Int := w64 ((BitVec.ofInt 64 x &&& BitVec.ofInt 64 1).toNat : Int)
end Go.Proofs.Ytjkohcdgjlaobaa.OpenSeenDone
