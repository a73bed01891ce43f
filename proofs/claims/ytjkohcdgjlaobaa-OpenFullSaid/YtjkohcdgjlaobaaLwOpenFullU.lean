/- What 'OpenFull' comes to, of any input: its frames. -/
import Derived.Test.YtjkohcdgjlaobaaCtOpenP
namespace Go.Proofs.Ytjkohcdgjlaobaa.OpenFullDone
open Go Go.Proofs Go.Proofs.Ytjkohcdgjlaobaa.Ev Go.Proofs.Ytjkohcdgjlaobaa.Ct
open Go.RowKit

noncomputable abbrev fn : Func := Try.f7
abbrev fid : FuncId := 7
def bl (c : Cfg) (m : Mm) : List (Nat × Blk) := [(0, .cells c.cells 24), (1, .cells (m.cells 2) memT), (2, .ints .u64 m.w u64T)]
def fr (c : Cfg) (m : Mm) (i : Int) (ds : List Dec) : Fr := mkFr 86 [(1, .pointer (some ⟨0, 0, none⟩)), (3, .pointer (some ⟨1, 0, none⟩)), (27, .int .i64 c.s), (28, .int .i64 i)] (bl c m) 3 [] ds
def frX (c : Cfg) (m : Mm) (ds : List Dec) : Fr := mkFr 86 [(1, .pointer (some ⟨0, 0, none⟩)), (3, .pointer (some ⟨1, 0, none⟩))] (bl c m) 3 [] ds
def blO (c : Cfg) (o : Ct.Op) : List (Nat × Blk) := [(0, .cells c.cells 24), (1, .opt [1, 2, 3] (opF 0) o.enc), (2, .opt [1, 2, 3] (opF 1) o.enc), (3, .opt [1, 2, 3] (opF 2) o.enc)]
def fr2 (c : Cfg) (o : Ct.Op) (n : Int) (N N' : Nat) (w w' : List Int) (i : Int) (ds : List Dec) : Fr := mkFr 86 [(1, .pointer (some ⟨0, 0, none⟩)), (9, .pointer (some ⟨1, 0, none⟩)), (10, .slice (some ⟨4, 0, none⟩) N N), (11, .int .i64 n), (12, .slice (some ⟨5, 0, none⟩) N' N'), (59, .int .i64 N), (60, .int .i64 i)] (blO c o ++ [(4, .ints .u64 w u64T), (5, .ints .u64 w' u64T)]) 6 [] ds
def frY (c : Cfg) (o : Ct.Op) (n : Int) (ds : List Dec) : Fr := mkFr 86 [(1, .pointer (some ⟨0, 0, none⟩)), (9, .pointer (some ⟨1, 0, none⟩)), (11, .int .i64 n)] (blO c o) 4 [] ds
def frE (b : Bool) : Fr := mkFr 86 [(2, .bool b)] [] 0 [] []
abbrev lp : List Nat := [1, 1, 1, 0, 1, 0, 0]
abbrev lp2 : List Nat := [1, 1, 1, 1, 1, 1, 1, 1, 1, 0, 1, 0, 0]
noncomputable abbrev K : List Kt := [.blk 0, .code (bd fn [1, 1, 1, 1])]
noncomputable abbrev K2 : List Kt := [.blk 2, .code (bd fn [1, 1, 1, 1, 1, 1, 1, 1, 1, 1])]
abbrev live : List Nat := [1, 3, 27, 28]
abbrev live2 : List Nat := [1, 9, 10, 11, 12, 59, 60]
abbrev nil0 : Prop := ([] : List Value) = []
abbrev RR (m : Mm) : Nat × Ct.Op × Mm := opRun 100 0 op0 m
abbrev q100 (o : Ct.Op) (m : Mm) : Prop := ([.int .i64 100] : List Value) = [.int .i64 100] ∧ 100 ≤ 1000 ∧ isOp o.enc ∧ opGood o m
noncomputable abbrev start (c : Cfg) (ds : List Dec) : Fr := ⟨[c.v] ++ List.replicate 85 undef, ⟨[], 0, []⟩, ds, []⟩
end Go.Proofs.Ytjkohcdgjlaobaa.OpenFullDone
