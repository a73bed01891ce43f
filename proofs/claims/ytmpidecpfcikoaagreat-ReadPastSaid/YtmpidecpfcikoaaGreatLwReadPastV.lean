/- What 'ReadPast' comes to, of any input: its frames and paths. -/
import Derived.Test.YtmpidecpfcikoaaGreatCtOfO
namespace Go.Proofs.YtmpidecpfcikoaaGreat.ReadPastDone
open Go Go.Proofs Go.Proofs.YtmpidecpfcikoaaGreat.Ev Go.Proofs.YtmpidecpfcikoaaGreat.Ct
open Go.RowKit

noncomputable abbrev fn : Func := Tryz.f8
abbrev fid : FuncId := 8
def args (c : Cfg) (a : Option Addr) (n cap : Nat) (h key st : Int) (sv : Value) : List Value := [c.v, .slice a n cap, .agg ⟨rowV [.u64, .i64, .i64] [h, key, st] ++ [sv]⟩]
abbrev A (c : Cfg) (l : List Int) (off cap : Nat) (pk : Pk) (h key st : Int) : List Value := args c (some ⟨0, off, none⟩) l.length cap h key st (pk.sv 1)
abbrev R (c : Cfg) (l : List Int) (h key : Int) : Nat × Rd × Mm := rdRun 300 0 (rdOf c h key) (newM c l)
abbrev lp : List Nat := [1, 1, 1, 1, 1, 1, 0, 1, 0, 0]
noncomputable abbrev K : List Kt := [.blk 0, .code (bd fn [1, 1, 1, 1, 1, 1, 1])]
abbrev live : List Nat := [3, 5, 7, 10, 11, 74, 75]
abbrev lp2 : List Nat := [1, 1, 1, 1, 1, 1, 1, 1, 1, 1, 1, 1, 1, 0, 1, 0, 0]
noncomputable abbrev K2 : List Kt := [.blk 2, .code (bd fn [1, 1, 1, 1, 1, 1, 1, 1, 1, 1, 1, 1, 1, 1])]
abbrev live2 : List Nat := [3, 5, 10, 18, 19, 20, 137, 138]
def bk (c : Cfg) (l : List Int) (off : Nat) (h key st : Int) (pk : Pk) : List (Nat × Blk) := (plHp l off pk).blks ++ [(2, .cells c.cells 24), (3, .cells (rowV [.u64, .i64, .i64] [h, key, st] ++ [pk.sv 1]) 28)]
def fr1 (c : Cfg) (l : List Int) (off : Nat) (h key st : Int) (pk : Pk) (N : Nat) (w : List Int) (sl n j : Int) (ds : List Dec) : Fr := mkFr 172 [(3, .pointer (some ⟨2, 0, none⟩)), (5, .pointer (some ⟨3, 0, none⟩)), (7, .int .i64 sl), (10, cfS N 4 5), (11, .int .u64 n), (74, .int .i64 c.s), (75, .int .i64 j)] (bk c l off h key st pk ++ [(4, .own (.ints .u64 w u64T) 5)]) 6 [] ds
def frX1 (c : Cfg) (l : List Int) (off : Nat) (h key st : Int) (pk : Pk) (N : Nat) (w : List Int) (ds : List Dec) : Fr := mkFr 172 [(3, .pointer (some ⟨2, 0, none⟩)), (5, .pointer (some ⟨3, 0, none⟩)), (10, cfS N 4 5)] (bk c l off h key st pk ++ [(4, .own (.ints .u64 w u64T) 5)]) 6 [] ds
abbrev obN : List Nat := rng 6 13
def bk2 (c : Cfg) (l : List Int) (off : Nat) (h key st : Int) (pk : Pk) (w : List Int) (o : Rd) : List (Nat × Blk) := bk c l off h key st pk ++ ((4, .own (.ints .u64 w u64T) 5) :: optL rdF obN o.enc obN 0)
def fr2 (c : Cfg) (l : List Int) (off : Nat) (h key st : Int) (pk : Pk) (N : Nat) (w : List Int) (o : Rd) (e : Int) (N' : Nat) (W : List Int) (k : Int) (ds : List Dec) : Fr := mkFr 172 [(3, .pointer (some ⟨2, 0, none⟩)), (5, .pointer (some ⟨3, 0, none⟩)), (10, cfS N 4 5), (18, .pointer (some ⟨6, 0, none⟩)), (19, .int .i64 e), (20, .slice (some ⟨19, 0, none⟩) N' N'), (137, .int .i64 N'), (138, .int .i64 k)] (bk2 c l off h key st pk w o ++ [(19, .ints .u64 W u64T)]) 20 [] ds
def frX2 (c : Cfg) (l : List Int) (off : Nat) (h key st : Int) (pk : Pk) (w : List Int) (o : Rd) (e : Int) (ds : List Dec) : Fr := mkFr 172 [(18, .pointer (some ⟨6, 0, none⟩)), (19, .int .i64 e)] (bk2 c l off h key st pk w o) 19 [] ds
def frE (l : List Int) (off : Nat) (pk : Pk) (b : Bool) : Fr := mkFr 172 [(6, .bool b)] (plHp l off pk).blks 2 [] []
noncomputable abbrev start (c : Cfg) (l : List Int) (off cap : Nat) (pk : Pk) (h key st : Int) (ds : List Dec) : Fr := ⟨A c l off cap pk h key st ++ List.replicate 169 undef, plHp l off pk, ds, []⟩
def pK (c : Cfg) (N : Nat) (a b : List Int) (kd x : Int) : List Prop := [N ≤ a.length, (0 : Nat) = 0, (0 + N) * 8 ≤ 140737488355328, 0 + N ≤ 9223372036854775807, c.Right, 0 ≤ cellIx c kd x, cellIx c kd x < (N : Int), iI (cellIx c kd x) < b.length]
def qH (c : Cfg) (l : List Int) (h : Int) : List Prop := [Wd h, (!rightB c) = false, c.Right, ((l.length : Int) != c.len) = false, (!ofOk h c.s) = false]
abbrev wt (l : List Int) : List Int := l.take l.length
abbrev n0 (c : Cfg) (l : List Int) (h : Int) : Int := Int.tmod (sI c (wt l) 5 (brS c h)) 1000
abbrev wt0 (c : Cfg) (l : List Int) (h : Int) : List Int := ((wt l).take l.length).set (iI (cellIx c 5 (brS c h))) (n0 c l h)
def qI (c : Cfg) (l : List Int) (off : Nat) (h key : Int) : List Prop := qH c l h ++ ([decide (key < 0) = false, decide (key ≥ c.k) = false, l.length ≤ l.length, off = off, (0 + l.length) * 8 ≤ 140737488355328, 0 + l.length ≤ 9223372036854775807] ++ (aQ c l.length (wt l) 5 (brS c h) ++ (((1000 : Int) ≠ 0) :: pK c l.length (wt l) ((wt l).take l.length) 5 (brS c h))))
abbrev wj1 (c : Cfg) (N : Nat) (w : List Int) (st j : Int) : List Int := (w.take N).set (iI (cellIx c 4 j)) (mvI (sI c w 4 j) st false)
abbrev wj2 (c : Cfg) (N : Nat) (w : List Int) (st n j : Int) : List Int := ((wj1 c N w st j).take N).set (iI (cellIx c 6 j)) n
def rQ (c : Cfg) (N : Nat) (w : List Int) (st j : Int) : List Prop := aQ c N w 4 j ++ (Wd (sI c w 4 j) :: (pK c N w (w.take N) 4 j ++ pK c N (wj1 c N w st j) ((wj1 c N w st j).take N) 6 j))
def hQ (c : Cfg) (sl : Int) (j : Nat) (b : Bool) : List Prop := [decide ((j : Int) < c.s) = true, ((j : Int) == sl) = false, (2 : Int) ≠ 0, (Int.tmod (j : Int) 2 == 0) = b]
def mQ (c : Cfg) (N : Nat) (w : List Int) (h key : Int) : List Prop := [c.Right ∧ (w.length : Int) = c.len ∧ N = w.length, isNew c h key, rdP (rng 11 13) (rdOf c h key), qRun 300 (rdOf c h key) (newM c w), (0 : Nat) = 0, N = w.length, c.Right ∧ (w.length : Int) = c.len ∧ WfW w ∧ Wd h, (R c w h key).2.2.ok]
abbrev vA (W : List Int) (k : Nat) : Int := W.getD (addN 0 (mulN k 1)) 0
def h2 (c : Cfg) (N N' : Nat) (w W : List Int) (k : Nat) (b : Bool) : List Prop := [decide ((k : Int) < (N' : Int)) = true, c.Right ∧ 0 ≤ (k : Int) ∧ (k : Int) < c.len, 0 ≤ (k : Int), (k : Int) < (N' : Int), addN 0 (mulN k 1) < W.length, 0 ≤ (k : Int), (k : Int) < (N : Int), addN 0 (mulN k 1) < w.length, (vA W k != vA w k) = b]
abbrev ns1 : List Nat := [0, 1, 2, 3, 17, 18]
open Dec in
section
variable (c : Cfg) (l w W : List Int) (off cap N N' : Nat) (h key st sl n e : Int) (pk : Pk) (o : Rd) (j k : Nat)
theorem p_no : callR Eap 20 fid (A c l off cap pk h key st) (plHp l off pk) [f, f, t, Dec.l, Dec.l, Dec.l] [0, 1] = some (.bool true, plHp l off pk, [Wd h, (!rightB c) = false, c.Right, ((l.length : Int) != c.len) = false, (!ofOk h c.s) = true]) := by cases pk <;> kernel_rfl
theorem p_k0 : callR Eap 20 fid (A c l off cap pk h key st) (plHp l off pk) [f, f, f, t, Dec.l, Dec.l, Dec.l] [0, 1] = some (.bool true, plHp l off pk, qH c l h ++ [decide (key < 0) = true]) := by cases pk <;> kernel_rfl
theorem p_k1 : callR Eap 20 fid (A c l off cap pk h key st) (plHp l off pk) [f, f, f, f, t, Dec.l, Dec.l] [0, 1] = some (.bool true, plHp l off pk, qH c l h ++ [decide (key < 0) = false, decide (key ≥ c.k) = true]) := by cases pk <;> kernel_rfl
theorem p_in : execR Eap 12 .normal [.code (bd fn [])] [0, 1, 2, 3, 12, 13] live 2 [] (start c l off cap pk h key st [f, f, f, f, f]) = some (.normal, .code (.loop (bd fn lp)) :: K, fr1 c l off h key st pk l.length (wt0 c l h) (brS c h) (n0 c l h) 0 [], qI c l off h key) := by cases pk <;> kernel_rfl
theorem p_same : run Eap 12 (bd fn lp) [0, 1, 2, 3, 4, 5] live 2 [] (fr1 c l off h key st pk N w sl n j [t, t]) = some (.normal, fr1 c l off h key st pk N w sl n (w64 ((j : Int) + 1)) [], [decide ((j : Int) < c.s) = true, ((j : Int) == sl) = true]) := by cases pk <;> kernel_rfl
theorem p_even : run Eap 12 (bd fn lp) ns1 live 2 [] (fr1 c l off h key st pk N w sl n j [t, f, t, t]) = some (.normal, fr1 c l off h key st pk N (wj2 c N w 4 n j) sl n (w64 ((j : Int) + 1)) [], hQ c sl j true ++ ((decide (n > 0) = true) :: rQ c N w 4 j)) := by cases pk <;> kernel_rfl
theorem p_even0 : run Eap 12 (bd fn lp) ns1 live 2 [] (fr1 c l off h key st pk N w sl n j [t, f, t, f]) = some (.normal, fr1 c l off h key st pk N (wj2 c N w 5 0 j) sl n (w64 ((j : Int) + 1)) [], hQ c sl j true ++ ((decide (n > 0) = false) :: rQ c N w 5 j)) := by cases pk <;> kernel_rfl
theorem p_odd : run Eap 12 (bd fn lp) ns1 live 2 [] (fr1 c l off h key st pk N w sl n j [t, f, f, Dec.l]) = some (.normal, fr1 c l off h key st pk N (wj2 c N w 5 0 j) sl n (w64 ((j : Int) + 1)) [], hQ c sl j false ++ rQ c N w 5 j) := by cases pk <;> kernel_rfl
theorem p_end : run Eap 12 (bd fn lp) [0, 1, 2, 3, 4, 5] [3, 5, 10] 2 [] (fr1 c l off h key st pk N w sl n j [f]) = some (.exit 0, frX1 c l off h key st pk N w [], [decide ((j : Int) < c.s) = false]) := by cases pk <;> kernel_rfl
theorem p_mid : execR Eap 12 (.exit 0) K ([0, 1, 2, 3, 4, 5, 11] ++ rng 24 12 ++ [36]) live2 2 [] (frX1 c l off h key st pk N w [Dec.l, Dec.l]) = some (.normal, .code (.loop (bd fn lp2)) :: K2, fr2 c l off h key st pk N w (R c w h key).2.1 (brI c w h) (R c w h key).2.2.N (R c w h key).2.2.w 0 [], mQ c N w h key) := by cases pk <;> kernel_rfl
theorem p_eq : run Eap 12 (bd fn lp2) (rng 0 20) live2 2 [] (fr2 c l off h key st pk N w o e N' W k [t, f, Dec.l]) = some (.normal, fr2 c l off h key st pk N w o e N' W (w64 ((k : Int) + 1)) [], h2 c N N' w W k false) := by cases pk <;> kernel_rfl
theorem p_key : run Eap 12 (bd fn lp2) (rng 0 20) live2 2 [] (fr2 c l off h key st pk N w o e N' W k [t, t, f]) = some (.normal, fr2 c l off h key st pk N w o e N' W (w64 ((k : Int) + 1)) [], h2 c N N' w W k true ++ [(!andL [kindAt c k == 8, numAt c k == key]) = false]) := by cases pk <;> kernel_rfl
theorem p_end2 : run Eap 12 (bd fn lp2) (rng 0 19) [18, 19] 2 [] (fr2 c l off h key st pk N w o e N' W k [f]) = some (.exit 2, frX2 c l off h key st pk w o e [], [decide ((k : Int) < (N' : Int)) = false]) := by cases pk <;> kernel_rfl
theorem p_out : execR Eap 12 (.exit 2) K2 [0, 1] [6] 2 [] (frX2 c l off h key st pk w o e [Dec.l, t]) = some (.ret, [], frE l off pk (o.no == e), [rdP obN o, qAsk o, o.dn = true, rdP obN o, qAsk o]) := by cases pk <;> kernel_rfl
theorem p_nr (a : Option Addr) (n : Nat) : told (doCall Er4 20 fid (args c a n cap h key st (pk.sv 1)) ⟨[], 2, []⟩ (t :: List.replicate 16 Dec.l)) = some (.bool true, [Wd h, (!rightB c) = true]) := by cases pk <;> kernel_rfl
theorem p_nl (a : Option Addr) (n : Nat) : told (doCall Er4 20 fid (args c a n cap h key st (pk.sv 1)) ⟨[], 2, []⟩ (f :: t :: List.replicate 16 Dec.l)) = some (.bool true, [Wd h, (!rightB c) = false, c.Right, ((n : Int) != c.len) = true]) := by cases pk <;> kernel_rfl
end
end Go.Proofs.YtmpidecpfcikoaaGreat.ReadPastDone
