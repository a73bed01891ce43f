/- What 'OpenAlone' comes to, of any input: its frames. -/
import Derived.Test.YtjkohcdgjlaobaaCtOpenP
namespace Go.Proofs.Ytjkohcdgjlaobaa.OpenAloneDone
open Go Go.Proofs Go.Proofs.Ytjkohcdgjlaobaa.Ev Go.Proofs.Ytjkohcdgjlaobaa.Ct
open Go.RowKit

noncomputable abbrev fn : Func := Try.f3
abbrev fid : FuncId := 3
def hp0 (l : List Int) (off : Nat) : Hp := ⟨[(0, .view off (.ints .u64 l u64T))], 1, []⟩
def args (c : Cfg) (a : Option Addr) (n cap : Nat) : List Value := [c.v, .slice a n cap]
abbrev A (c : Cfg) (l : List Int) (off cap : Nat) : List Value := args c (some ⟨0, off, none⟩) l.length cap
def bl (c : Cfg) (l : List Int) (off : Nat) (m : Mm) (o : Ct.Op) : List (Nat × Blk) := [(0, .view off (.ints .u64 l u64T)), (1, .cells c.cells 24), (2, .cells (m.cells 3) memT), (3, .ints .u64 m.w u64T), (4, .opt [4, 5, 6] (opF 0) o.enc), (5, .opt [4, 5, 6] (opF 1) o.enc), (6, .opt [4, 5, 6] (opF 2) o.enc)]
def fr (c : Cfg) (l : List Int) (off cap : Nat) (free i : Int) (ds : List Dec) : Fr := mkFr 128 [(1, .slice (some ⟨0, off, none⟩) l.length cap), (2, .pointer (some ⟨1, 0, none⟩)), (5, .pointer (some ⟨2, 0, none⟩)), (8, .pointer (some ⟨4, 0, none⟩)), (9, .int .i64 free), (10, .int .i64 i)] (bl c l off (newM c l) op0) 7 [] ds
def frX (c : Cfg) (l : List Int) (off cap : Nat) (free : Int) (ds : List Dec) : Fr := mkFr 128 [(1, .slice (some ⟨0, off, none⟩) l.length cap), (2, .pointer (some ⟨1, 0, none⟩)), (5, .pointer (some ⟨2, 0, none⟩)), (8, .pointer (some ⟨4, 0, none⟩)), (9, .int .i64 free)] (bl c l off (newM c l) op0) 7 [] ds
def frE (l : List Int) (off : Nat) (b : Bool) : Fr := mkFr 128 [(4, .bool b)] [(0, .view off (.ints .u64 l u64T))] 1 [] []
abbrev lp : List Nat := [1, 1, 1, 1, 1, 0, 1, 0, 0]
noncomputable abbrev K : List Kt := [.blk 0, .code (bd fn [1, 1, 1, 1, 1, 1])]
abbrev live : List Nat := [1, 2, 5, 8, 9, 10]
abbrev nil0 : Prop := ([] : List Value) = []
abbrev RR (c : Cfg) (l : List Int) : Nat × Ct.Op × Mm := opRun 100 0 op0 (newM c l)
abbrev q100 (o : Ct.Op) (m : Mm) : Prop := ([.int .i64 100] : List Value) = [.int .i64 100] ∧ 100 ≤ 1000 ∧ isOp o.enc ∧ opGood o m
def q0 (c : Cfg) (l : List Int) (off : Nat) : List Prop := [c.Right ∧ (l.length : Int) = c.len ∧ l.length = l.length ∧ off = off]
noncomputable abbrev start (c : Cfg) (l : List Int) (off cap : Nat) (ds : List Dec) : Fr := ⟨A c l off cap ++ List.replicate 126 undef, hp0 l off, ds, []⟩
/-- The word at a place that the law reads. -/
def jI (off : Nat) (x : Int) : Nat := addN off (mulN x.toNat 1) - off
theorem jI_eq (off : Nat) (x : Int) : jI off x = x.toNat := by unfold jI; rw [addN_eq, mulN_eq]; omega
def at4 (c : Cfg) (l : List Int) (off : Nat) (i : Int) : Int := l.getD (jI off (cellIx c 4 i)) 0
end Go.Proofs.Ytjkohcdgjlaobaa.OpenAloneDone
