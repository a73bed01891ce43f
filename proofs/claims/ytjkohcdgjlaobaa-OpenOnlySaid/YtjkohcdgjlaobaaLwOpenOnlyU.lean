/- What 'OpenOnly' comes to, of any input: its frames. -/
import Derived.Test.YtjkohcdgjlaobaaCtOpenQ
namespace Go.Proofs.Ytjkohcdgjlaobaa.OpenOnlyDone
open Go Go.Proofs Go.Proofs.Ytjkohcdgjlaobaa.Ev Go.Proofs.Ytjkohcdgjlaobaa.Ct
open Go.RowKit

noncomputable abbrev fn : Func := Try.f9
abbrev fid : FuncId := 9
def hp0 (l : List Int) (off : Nat) : Hp := ⟨[(0, .view off (.ints .u64 l u64T))], 1, []⟩
def args (c : Cfg) (a : Option Addr) (n cap : Nat) : List Value := [c.v, .slice a n cap]
abbrev A (c : Cfg) (l : List Int) (off cap : Nat) : List Value := args c (some ⟨0, off, none⟩) l.length cap
def fr (c : Cfg) (l : List Int) (off cap : Nat) (o : Ct.Op) (N : Nat) (wf : List Int) (sl p i : Int) (ds : List Dec) : Fr := mkFr 118 [(1, .slice (some ⟨0, off, none⟩) l.length cap), (2, .pointer (some ⟨1, 0, none⟩)), (8, .pointer (some ⟨3, 0, none⟩)), (9, .int .i64 sl), (11, .int .i64 p), (53, .slice (some ⟨2, 0, none⟩) N N), (54, .int .i64 N), (55, .int .i64 i)] [(0, .view off (.ints .u64 l u64T)), (1, .cells c.cells 24), (2, .ints .u64 wf u64T), (3, .opt [3, 4, 5] (opF 0) o.enc), (4, .opt [3, 4, 5] (opF 1) o.enc), (5, .opt [3, 4, 5] (opF 2) o.enc)] 6 [] ds
def frX (l : List Int) (off : Nat) (o : Ct.Op) (ds : List Dec) : Fr := mkFr 118 [(8, .pointer (some ⟨1, 0, none⟩))] [(0, .view off (.ints .u64 l u64T)), (1, .opt [1, 2, 3] (opF 0) o.enc), (2, .opt [1, 2, 3] (opF 1) o.enc), (3, .opt [1, 2, 3] (opF 2) o.enc)] 4 [] ds
def frE (l : List Int) (off : Nat) (b : Bool) : Fr := mkFr 118 [(4, .bool b)] [(0, .view off (.ints .u64 l u64T))] 1 [] []
abbrev lp : List Nat := [1, 1, 1, 1, 1, 1, 1, 0, 1, 0, 0]
noncomputable abbrev K : List Kt := [.blk 0, .code (bd fn [1, 1, 1, 1, 1, 1, 1, 1])]
abbrev live : List Nat := [1, 2, 8, 9, 11, 53, 54, 55]
abbrev nil0 : Prop := ([] : List Value) = []
abbrev RR (c : Cfg) (l : List Int) : Nat × Ct.Op × Mm := opRun 100 0 op0 (newM c l)
abbrev q100 (o : Ct.Op) (m : Mm) : Prop := ([.int .i64 100] : List Value) = [.int .i64 100] ∧ 100 ≤ 1000 ∧ isOp o.enc ∧ opGood o m
def q0 (c : Cfg) (l : List Int) (off : Nat) : List Prop := [c.Right ∧ (l.length : Int) = c.len ∧ l.length = l.length ∧ off = off]
noncomputable abbrev start (c : Cfg) (l : List Int) (off cap : Nat) (ds : List Dec) : Fr := ⟨A c l off cap ++ List.replicate 116 undef, hp0 l off, ds, []⟩
def jv (off i : Nat) : Nat := addN off (mulN i 1) - off
theorem jv_eq (off i : Nat) : jv off i = i := by unfold jv; rw [addN_eq, mulN_eq]; omega
def atK (c : Cfg) (i : Nat) (k n : Int) : Bool := andL [kindAt c i == k, numAt c i == n]
theorem atK_true {c : Cfg} {i : Nat} {k n : Int} (h : cellIx c k n = (i : Int)) : atK c i k n = true := by
  obtain ⟨h1, h2⟩ := at_cellIx h (by omega)
  unfold atK
  rw [h1, h2]
  simp [andL]
end Go.Proofs.Ytjkohcdgjlaobaa.OpenOnlyDone
