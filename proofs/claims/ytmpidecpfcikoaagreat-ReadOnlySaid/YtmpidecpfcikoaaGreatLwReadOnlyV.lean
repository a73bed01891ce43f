/- What 'ReadOnly' comes to, of any input: its frames and paths; what a read changes. -/
import Derived.Test.YtmpidecpfcikoaaGreatCtReadU
namespace Go.Proofs.YtmpidecpfcikoaaGreat.ReadOnlyDone
open Go Go.Proofs Go.Proofs.YtmpidecpfcikoaaGreat.Ev Go.Proofs.YtmpidecpfcikoaaGreat.Ct
open Go.RowKit

noncomputable abbrev fn : Func := Tryz.f7
abbrev fid : FuncId := 7
def args (c : Cfg) (a : Option Addr) (n cap : Nat) (h key st : Int) (sv : Value) : List Value := [c.v, .slice a n cap, .agg ⟨rowV [.u64, .i64, .i64] [h, key, st] ++ [sv]⟩]
abbrev A (c : Cfg) (l : List Int) (off cap : Nat) (pk : Pk) (h key st : Int) : List Value := args c (some ⟨0, off, none⟩) l.length cap h key st (pk.sv 1)
abbrev R (c : Cfg) (l : List Int) (h key : Int) : Nat × Rd × Mm := rdRun 300 0 (rdOf c h key) (newM c l)
abbrev lp : List Nat := [1, 1, 1, 1, 1, 1, 0, 1, 0, 0]
noncomputable abbrev K : List Kt := [.blk 0, .code (bd fn [1, 1, 1, 1, 1, 1, 1])]
abbrev live : List Nat := [1, 3, 5, 10, 11, 54, 55, 56]
abbrev obN : List Nat := rng 4 13
def bk (c : Cfg) (l : List Int) (off : Nat) (h key st : Int) (pk : Pk) (o : Rd) : List (Nat × Blk) := (plHp l off pk).blks ++ ([(2, .cells c.cells 24), (3, .cells (rowV [.u64, .i64, .i64] [h, key, st] ++ [pk.sv 1]) 28)] ++ optL rdF obN o.enc obN 0)
def fr (c : Cfg) (l : List Int) (off cap : Nat) (h key st : Int) (pk : Pk) (o : Rd) (N : Nat) (W : List Int) (sl k : Int) (ds : List Dec) : Fr := mkFr 128 [(1, .slice (some ⟨0, off, none⟩) l.length cap), (3, .pointer (some ⟨2, 0, none⟩)), (5, .pointer (some ⟨3, 0, none⟩)), (10, .pointer (some ⟨4, 0, none⟩)), (11, .int .i64 sl), (54, .slice (some ⟨17, 0, none⟩) N N), (55, .int .i64 N), (56, .int .i64 k)] (bk c l off h key st pk o ++ [(17, .ints .u64 W u64T)]) 18 [] ds
def frX (c : Cfg) (l : List Int) (off : Nat) (h key st : Int) (pk : Pk) (o : Rd) (ds : List Dec) : Fr := mkFr 128 [(10, .pointer (some ⟨4, 0, none⟩))] (bk c l off h key st pk o) 17 [] ds
def frE (l : List Int) (off : Nat) (pk : Pk) (b : Bool) : Fr := mkFr 128 [(6, .bool b)] (plHp l off pk).blks 2 [] []
noncomputable abbrev start (c : Cfg) (l : List Int) (off cap : Nat) (pk : Pk) (h key st : Int) (ds : List Dec) : Fr := ⟨A c l off cap pk h key st ++ List.replicate 125 undef, plHp l off pk, ds, []⟩
abbrev wA (W : List Int) (k : Nat) : Int := W.getD (addN 0 (mulN k 1)) 0
abbrev lA (l : List Int) (off k : Nat) : Int := l.getD (addN off (mulN k 1) - off) 0
def atK (c : Cfg) (i : Nat) (k n : Int) : Bool := andL [kindAt c i == k, numAt c i == n]
def lQ (l : List Int) (off k : Nat) : List Prop := [0 ≤ (k : Int), (k : Int) < (l.length : Int), off ≤ addN off (mulN k 1), addN off (mulN k 1) - off < l.length]
def hQ (c : Cfg) (l W : List Int) (off N k : Nat) (b : Bool) : List Prop := [decide ((k : Int) < (N : Int)) = true, 0 ≤ (k : Int), (k : Int) < (N : Int), addN 0 (mulN k 1) < W.length, c.Right ∧ 0 ≤ (k : Int) ∧ (k : Int) < c.len] ++ (lQ l off k ++ [(wA W k == lA l off k) = b])
def bQ (c : Cfg) (l W : List Int) (off k : Nat) (sl key : Int) : List Prop := (atK c k 8 key = true) :: (lQ l off k ++ [Wd (lA l off k), (wA W k != withI (lA l off k) 0 sl) = false])
def cQ (c : Cfg) (l W : List Int) (off k : Nat) (sl key : Int) : List Prop := (atK c k 8 key = false) :: (atK c k 4 sl = true) :: Wd (wA W k) :: (lQ l off k ++ (Wd (lA l off k) :: ((nuI (wA W k) 30 32 != nuI (lA l off k) 30 32) = false) :: ((4096 : Int) ≠ 0) :: ((4096 : Int) ≠ 0) :: (lQ l off k ++ [(4096 : Int) ≠ 0, (4096 : Int) ≠ 0, (Int.tmod (u64 (Int.tdiv (wA W k) 4096)) 4096 != Int.tmod (u64 (Int.tdiv (lA l off k) 4096)) 4096) = false])))
def dQ (c : Cfg) (l W : List Int) (off k : Nat) (sl key : Int) : List Prop := (atK c k 8 key = false) :: (atK c k 4 sl = false) :: ((kindAt c k == 4) = true) :: (lQ l off k ++ [Wd (lA l off k), (wA W k != withI (lA l off k) 1 sl) = false])
def q0 (c : Cfg) (l : List Int) (off : Nat) (h key : Int) : List Prop := [c.Right ∧ (l.length : Int) = c.len ∧ l.length = l.length ∧ off = off, isNew c h key, rdP (rng 9 13) (rdOf c h key), qRun 300 (rdOf c h key) (newM c l), Wd h, (R c l h key).2.2.ok]
open Dec in
section
variable (c : Cfg) (l W : List Int) (off cap N : Nat) (h key st sl : Int) (pk : Pk) (o : Rd) (k : Nat)
theorem p_in : execR Er4o 12 .normal [.code (bd fn [])] ([0, 1, 2, 3, 9] ++ rng 22 12 ++ [34]) live 2 [] (start c l off cap pk h key st [Dec.l, Dec.l]) = some (.normal, .code (.loop (bd fn lp)) :: K, fr c l off cap h key st pk (R c l h key).2.1 (R c l h key).2.2.N (R c l h key).2.2.w (brS c h) 0 [], q0 c l off h key) := by cases pk <;> kernel_rfl
theorem p_A : run Er4o 12 (bd fn lp) (rng 0 18) live 2 [] (fr c l off cap h key st pk o N W sl k [t, t]) = some (.normal, fr c l off cap h key st pk o N W sl (w64 ((k : Int) + 1)) [], hQ c l W off N k true) := by cases pk <;> kernel_rfl
theorem p_B : run Er4o 12 (bd fn lp) (rng 0 18) live 2 [] (fr c l off cap h key st pk o N W sl k [t, f, t, f]) = some (.normal, fr c l off cap h key st pk o N W sl (w64 ((k : Int) + 1)) [], hQ c l W off N k false ++ bQ c l W off k sl key) := by cases pk <;> kernel_rfl
theorem p_C : run Er4o 12 (bd fn lp) (rng 0 18) live 2 [] (fr c l off cap h key st pk o N W sl k [t, f, f, t, f, f]) = some (.normal, fr c l off cap h key st pk o N W sl (w64 ((k : Int) + 1)) [], hQ c l W off N k false ++ cQ c l W off k sl key) := by cases pk <;> kernel_rfl
theorem p_D : run Er4o 12 (bd fn lp) (rng 0 18) live 2 [] (fr c l off cap h key st pk o N W sl k [t, f, f, f, t, f]) = some (.normal, fr c l off cap h key st pk o N W sl (w64 ((k : Int) + 1)) [], hQ c l W off N k false ++ dQ c l W off k sl key) := by cases pk <;> kernel_rfl
theorem p_end : run Er4o 12 (bd fn lp) (rng 0 17) [10] 2 [] (fr c l off cap h key st pk o N W sl k [f]) = some (.exit 0, frX c l off h key st pk o [], [decide ((k : Int) < (N : Int)) = false]) := by cases pk <;> kernel_rfl
theorem p_out : execR Er4o 12 (.exit 0) K [0, 1] [6] 2 [] (frX c l off h key st pk o [Dec.l]) = some (.ret, [], frE l off pk o.dn, [rdP obN o, qAsk o]) := by cases pk <;> kernel_rfl
theorem p_nr (a : Option Addr) (n : Nat) : told (doCall Er4 20 fid (args c a n cap h key st (pk.sv 1)) ⟨[], 2, []⟩ (t :: List.replicate 16 Dec.l)) = some (.bool true, [(!rightB c) = true, isNew c h key]) := by cases pk <;> kernel_rfl
theorem p_nl (a : Option Addr) (n : Nat) : told (doCall Er4 20 fid (args c a n cap h key st (pk.sv 1)) ⟨[], 2, []⟩ (f :: t :: List.replicate 16 Dec.l)) = some (.bool true, [(!rightB c) = false, c.Right, ((n : Int) != c.len) = true, isNew c h key]) := by cases pk <;> kernel_rfl
end
end Go.Proofs.YtmpidecpfcikoaaGreat.ReadOnlyDone
