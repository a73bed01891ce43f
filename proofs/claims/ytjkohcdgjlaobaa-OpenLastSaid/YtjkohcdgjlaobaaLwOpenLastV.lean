/- What 'OpenLast' comes to, of any input: its paths. -/
import Derived.Test.YtjkohcdgjlaobaaCtOpenP
namespace Go.Proofs.Ytjkohcdgjlaobaa.OpenLastDone
open Go Go.Proofs Go.Proofs.Ytjkohcdgjlaobaa.Ev Go.Proofs.Ytjkohcdgjlaobaa.Ct
open Go.RowKit

noncomputable abbrev fn : Func := Try.f5
abbrev fid : FuncId := 5
abbrev A (c : Cfg) (g : Int) : List Value := [c.v, .int .i64 g]
def bl (c : Cfg) (m : Mm) : List (Nat × Blk) := [(0, .cells c.cells 24), (1, .cells (m.cells 2) memT), (2, .ints .u64 m.w u64T), (3, .opt [3, 4, 5] (opF 0) op0.enc), (4, .opt [3, 4, 5] (opF 1) op0.enc), (5, .opt [3, 4, 5] (opF 2) op0.enc)]
def fr (c : Cfg) (g : Int) (m : Mm) (i : Int) (ds : List Dec) : Fr := mkFr 69 [(1, .int .i64 g), (2, .pointer (some ⟨0, 0, none⟩)), (5, .pointer (some ⟨1, 0, none⟩)), (7, .pointer (some ⟨3, 0, none⟩)), (39, .int .i64 c.s), (40, .int .i64 i)] (bl c m) 6 [] ds
def frX (c : Cfg) (g : Int) (m : Mm) (ds : List Dec) : Fr := mkFr 69 [(1, .int .i64 g), (2, .pointer (some ⟨0, 0, none⟩)), (5, .pointer (some ⟨1, 0, none⟩)), (7, .pointer (some ⟨3, 0, none⟩))] (bl c m) 6 [] ds
def frE (b : Bool) : Fr := mkFr 69 [(4, .bool b)] [] 0 [] []
abbrev lp : List Nat := [1, 1, 1, 1, 0, 1, 0, 0]
noncomputable abbrev K : List Kt := [.blk 0, .code (bd fn [1, 1, 1, 1, 1])]
abbrev live : List Nat := [1, 2, 5, 7, 39, 40]
abbrev nil0 : Prop := ([] : List Value) = []
abbrev RR (m : Mm) : Nat × Ct.Op × Mm := opRun 100 0 op0 m
abbrev q100 (o : Ct.Op) (m : Mm) : Prop := ([.int .i64 100] : List Value) = [.int .i64 100] ∧ 100 ≤ 1000 ∧ isOp o.enc ∧ opGood o m
noncomputable abbrev start (c : Cfg) (g : Int) (ds : List Dec) : Fr := ⟨A c g ++ List.replicate 67 undef, ⟨[], 0, []⟩, ds, []⟩
open Dec in
section
variable (c : Cfg) (g : Int) (m : Mm) (i : Nat)
theorem p_in : execR E50n 12 .normal [.code (bd fn [])] [0, 1, 2, 3, 4, 5] live 0 [] (start c g [Dec.l, Dec.l, Dec.l, f, f]) = some (.normal, .code (.loop (bd fn lp)) :: K, fr c g (nwM c) 0 [], [c.Right, nil0, decide (g < 0) = false, decide (g > 1073741824) = false]) := by kernel_rfl
theorem p_go : run E50n 12 (bd fn lp) [0, 1, 2, 3, 4, 5] live 0 [] (fr c g m (i : Int) [t]) = some (.normal, fr c g (mSt m 4 i (nwI 0 g)) (w64 ((i : Int) + 1)) [], [decide ((i : Int) < c.s) = true, NwP 0 g, m.ok]) := by kernel_rfl
theorem p_end : run E50n 12 (bd fn lp) [0, 1, 2, 3, 4, 5] [1, 2, 5, 7] 0 [] (fr c g m (i : Int) [f]) = some (.exit 0, frX c g m [], [decide ((i : Int) < c.s) = false]) := by kernel_rfl
theorem p_out : execR E50n 12 (.exit 0) K [] [4] 0 [] (frX c g m [Dec.l, t]) = some (.ret, [], frE (((RR m).2.1.e == 0) == decide (g ≤ c.g)), [oP [3, 4, 5] op0, q100 op0 m, oP [3, 6, 7] (RR m).2.1, qAsk (RR m).2.1, (RR m).2.1.dn = true, oP [3, 6, 7] (RR m).2.1, qAsk (RR m).2.1]) := by kernel_rfl
theorem p_neg : callR E50n 12 fid (A c g) ⟨[], 0, []⟩ ([Dec.l, Dec.l, Dec.l, t] ++ List.replicate 8 Dec.l) [] = some (.bool true, ⟨[], 0, []⟩, [c.Right, nil0, decide (g < 0) = true]) := by kernel_rfl
theorem p_big : callR E50n 12 fid (A c g) ⟨[], 0, []⟩ ([Dec.l, Dec.l, Dec.l, f, t] ++ List.replicate 8 Dec.l) [] = some (.bool true, ⟨[], 0, []⟩, [c.Right, nil0, decide (g < 0) = false, decide (g > 1073741824) = true]) := by kernel_rfl
end
end Go.Proofs.Ytjkohcdgjlaobaa.OpenLastDone
