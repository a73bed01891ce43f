/- What 'OpenSteps' comes to, of any input: its frames. -/
import Derived.Test.YtjkohcdgjlaobaaCtOd
namespace Go.Proofs.Ytjkohcdgjlaobaa.OpenStepsDone
open Go Go.Proofs Go.Proofs.Ytjkohcdgjlaobaa.Ev Go.Proofs.Ytjkohcdgjlaobaa.Ct
open Go.RowKit

noncomputable abbrev fn : Func := Try.f8
abbrev fid : FuncId := 8
def args (c : Cfg) (a : Option Addr) (n cap : Nat) (st : Int) (sv : Value) : List Value := [c.v, .slice a n cap, .agg ⟨rowV [.i64] [st] ++ [sv]⟩]
def lim (st : Int) : Int := if st > 0 then st else 0
def fr (l : List Int) (off : Nat) (pk : Pk) (st : Int) (m q : Mm) (o : Ct.Op) (d : Od) (i : Int) (ds : List Dec) : Fr := mkFr 85 [(5, .pointer (some ⟨2, 0, none⟩)), (7, .pointer (some ⟨3, 0, none⟩)), (8, .pointer (some ⟨4, 0, none⟩)), (10, .pointer (some ⟨6, 0, none⟩)), (11, .pointer (some ⟨5, 0, none⟩)), (46, .int .i64 (lim st)), (47, .int .i64 i)]
  ((0, .view off (.ints .u64 l u64T)) :: (pk.blk 1 ++ [(2, .cells [.int .i64 st, pk.sv 1] 65), (3, .cells (m.cells 7) memT), (4, .cells (q.rcells 8 9) rmT), (5, .cells d.cells 69), (6, .opt [6, 10, 11] (opF 0) o.enc), (7, .ints .u64 m.w u64T), (8, .view 0 (.ints .u64 q.w u64T)), (10, .opt [6, 10, 11] (opF 1) o.enc), (11, .opt [6, 10, 11] (opF 2) o.enc)])) 12 [] ds
def frX (l : List Int) (off : Nat) (pk : Pk) : Fr := mkFr 85 [] (plHp l off pk).blks 2 [] []
def frE (l : List Int) (off : Nat) (pk : Pk) : Fr := mkFr 85 [(6, .bool true)] (plHp l off pk).blks 2 [] []
abbrev lp : List Nat := [1, 1, 1, 1, 1, 0, 1, 0, 0]
noncomputable abbrev K : List Kt := [.blk 0, .code (bd fn [1, 1, 1, 1, 1, 1])]
abbrev live : List Nat := [5, 7, 8, 10, 11, 46, 47]
def q0 (c : Cfg) (l : List Int) (off : Nat) : List Prop := [c.Right ∧ (l.length : Int) = c.len ∧ l.length = l.length ∧ off = off]
abbrev A (c : Cfg) (l : List Int) (off cap : Nat) (pk : Pk) (st : Int) : List Value := args c (some ⟨0, off, none⟩) l.length cap st (pk.sv 1)
noncomputable abbrev start (c : Cfg) (l : List Int) (off cap : Nat) (pk : Pk) (st : Int) (ds : List Dec) : Fr := ⟨A c l off cap pk st ++ List.replicate 82 undef, plHp l off pk, ds, []⟩
abbrev M1 (pk : Pk) (i : Nat) (m : Mm) : Mm := pk.do (i : Int) m
abbrev od0 : Od := ⟨0, 0, 0, 0, 0, 0, 0, false, 0, 0, 0, false⟩
end Go.Proofs.Ytjkohcdgjlaobaa.OpenStepsDone
