/- What 'ReadSteps' comes to, of any input: more paths (under way). -/
import Derived.Test.YtmpidecpfcikoaaGreatCtReadO
namespace Go.Proofs.YtmpidecpfcikoaaGreat.ReadStepsDone
open Go Go.Proofs Go.Proofs.YtmpidecpfcikoaaGreat.Ev Go.Proofs.YtmpidecpfcikoaaGreat.Ct
open Go.RowKit

noncomputable abbrev fn : Func := Tryz.f6
abbrev fid : FuncId := 6
def args (c : Cfg) (a : Option Addr) (n cap : Nat) (h key st : Int) (sv : Value) : List Value := [c.v, .slice a n cap, .agg ⟨rowV [.u64, .i64, .i64] [h, key, st] ++ [sv]⟩]
abbrev A (c : Cfg) (l : List Int) (off cap : Nat) (pk : Pk) (h key st : Int) : List Value := args c (some ⟨0, off, none⟩) l.length cap h key st (pk.sv 1)
abbrev lp : List Nat := [1, 1, 1, 1, 1, 1, 0, 1, 0, 0]
noncomputable abbrev K : List Kt := [.blk 0, .code (bd fn [1, 1, 1, 1, 1, 1, 1])]
abbrev live : List Nat := [5, 7, 8, 10, 11, 68, 69]
/-- The document's read, but for its others. -/
structure Dr where
  key : Int
  slot : Int
  nx : Int
  n : Int
  w : Int
  g : Et
  j : Jd
  o : On
  v : Lv
  told : Int
  e : Int
  dn : Bool
def Dr.cells (d : Dr) (ov gv : Value) : List Value := [.int .i64 d.key, .int .i64 d.slot, .int .i64 d.nx, .int .u64 d.n, .int .u64 d.w, ov, .int .u64 d.g.h, gv, .bool d.g.tk, .int .u64 d.g.s, .int .u64 d.g.wd, .int .i64 d.g.no, .bool d.g.dn] ++ (d.j.cells ++ (d.o.dcells ++ (d.v.dcells ++ [.int .i64 d.told, .int .i64 d.e, .bool d.dn])))
/-- Its others: none; a row; a row from a place on. -/
inductive Ot where
  | nil
  | z (x : List Int)
  | s (k n : Nat) (x : List Int)
def Ot.v : Ot → Value
  | .nil => .slice none 0 0
  | .z x => .slice (some ⟨23, 0, some 24⟩) x.length 0
  | .s k n _ => .slice (some ⟨23, k + 1, some 25⟩) n n
def Ot.blk : Ot → List (Nat × Blk)
  | .nil => []
  | .z x => [(23, .own (.ints .i64 x intT) 24)]
  | .s _ _ x => [(23, .own (.ints .i64 x intT) 24)]
def Ot.nx : Ot → Nat
  | .nil => 23
  | .z _ => 25
  | .s _ _ _ => 26
def lim (st : Int) : Int := if st > 0 then st else 0
abbrev obN : List Nat := rng 8 13
abbrev st2 : Value := .slice (some ⟨22, 0, none⟩) 1 1
def fr (l : List Int) (off : Nat) (pk : Pk) (h key st : Int) (m q : Mm) (r : Rd) (d : Dr) (ot : Ot) (i : Int) (ds : List Dec) : Fr := mkFr 107 [(5, .pointer (some ⟨2, 0, none⟩)), (7, .pointer (some ⟨3, 0, none⟩)), (8, .pointer (some ⟨7, 0, none⟩)), (10, .pointer (some ⟨8, 0, none⟩)), (11, .pointer (some ⟨21, 0, none⟩)), (68, .int .i64 (lim st)), (69, .int .i64 i)]
  ((plHp l off pk).blks ++ ([(2, .cells (rowV [.u64, .i64, .i64] [h, key, st] ++ [pk.sv 1]) 28), (3, .cells (m.cells 4) memT), (4, .ints .u64 m.w u64T), (5, .view 0 (.ints .u64 q.w u64T)), (7, .cells (q.rcells 5 6) rmT)] ++ (optL rdF obN r.enc obN 0 ++ ([(21, .cells (d.cells ot.v st2) 69), (22, .cells [.int .i64 2] intT)] ++ ot.blk)))) ot.nx [] ds
abbrev M1 (pk : Pk) (i : Nat) (m : Mm) : Mm := pk.do (i : Int) m
noncomputable def EsN : Env := Er4o.add 20 gO0
theorem EsNok : EnvOk EsN := Er4ook.add (gO0_ok rOent fun h => ro_C0 h)
noncomputable def EsO : Env := Er4o.add 20 gO1
theorem EsOok : EnvOk EsO := Er4ook.add (gO1_ok rOent fun h => ro_C1 h)
def hQ (pk : Pk) (st : Int) (m : Mm) (r : Rd) (i : Nat) : List Prop := (decide ((i : Int) < lim st) = true) :: (pk.pc m ++ [rdP obN r, qGo r (M1 pk i m)])
def tQ (pk : Pk) (m : Mm) (r : Rd) (i k : Nat) (q : Mm) (dn : Bool) (e : Int) : List Prop := [(rdMe r (M1 pk i m)).ok, alike (rdMe r (M1 pk i m)) q, rdP (8 :: rng k 12) (rdSt r (M1 pk i m)), qAsk (rdSt r (M1 pk i m)), ((rdSt r (M1 pk i m)).dn != dn) = false, rdP (8 :: rng k 12) (rdSt r (M1 pk i m)), qAsk (rdSt r (M1 pk i m)), ((rdSt r (M1 pk i m)).no != e) = false]
abbrev Q (pk : Pk) (m : Mm) (i : Nat) : Mm := (M1 pk i m).doc
abbrev rr (q : Mm) : Prop := q.ok ∧ q.c.Right
abbrev kd (q : Mm) (kd n : Int) : Int := getW q.w (cellIx q.c kd n)
abbrev nA : List Nat := [0, 1, 2, 3, 4, 23, 24, 7, 8] ++ rng 25 12 ++ [21, 22]
abbrev nB : List Nat := [0, 1, 2, 3, 4, 41, 42, 7, 8] ++ rng 25 12 ++ [21, 22]
open Dec in
section
variable (l : List Int) (off : Nat) (pk : Pk) (h key st : Int) (m : Mm) (r : Rd) (i : Nat) (a0 a1 n w told e nx : Int) (g : Et) (j : Jd) (o : On) (v : Lv)
theorem r_7 : run Er4o 12 (bd fn lp) nA live 2 [] (fr l off pk h key st m m r ⟨a0, a1, nx, n, w, g, j, o, v, told, e, true⟩ .nil (i : Int) [t, Dec.l, Dec.l, f, f]) = some (.normal, fr l off pk h key st (rdMe r (M1 pk i m)) (Q pk m i) (rdSt r (M1 pk i m)) ⟨a0, a1, nx, n, w, g, j, o, v, told, e, true⟩ .nil (w64 ((i : Int) + 1)) [], hQ pk st m r i ++ tQ pk m r i 25 (Q pk m i) true e) := by cases pk <;> kernel_rfl
theorem r_1 : run Er4o 12 (bd fn lp) nB live 2 [] (fr l off pk h key st m m r ⟨a0, a1, 1, n, w, g, j, o, v, told, e, false⟩ .nil (i : Int) [t, Dec.l, Dec.l, Dec.l, Dec.l, f, f]) = some (.normal, fr l off pk h key st (rdMe r (M1 pk i m)) (mLd (Q pk m i) 5 a1) (rdSt r (M1 pk i m)) ⟨a0, a1, 2, kd (Q pk m i) 5 a1, w, g, j, o, v, told, e, false⟩ .nil (w64 ((i : Int) + 1)) [], hQ pk st m r i ++ (rr (Q pk m i) :: tQ pk m r i 25 (mLd (Q pk m i) 5 a1) false e)) := by cases pk <;> kernel_rfl
theorem r_2n : run Er4o 12 (bd fn lp) nB live 2 [] (fr l off pk h key st m m r ⟨a0, a1, 2, n, w, g, j, o, v, told, e, false⟩ .nil (i : Int) [t, Dec.l, Dec.l, Dec.l, Dec.l, f, Dec.l, f, f]) = some (.normal, fr l off pk h key st (rdMe r (M1 pk i m)) (mLd (Q pk m i) 8 a0) (rdSt r (M1 pk i m)) ⟨a0, a1, 3, n, kd (Q pk m i) 8 a0, g, j, o, v, told, e, false⟩ .nil (w64 ((i : Int) + 1)) [], hQ pk st m r i ++ (rr (Q pk m i) :: Wd (kd (Q pk m i) 8 a0) :: (hasI (kd (Q pk m i) 8 a0) 0 a1 = false) :: tQ pk m r i 25 (mLd (Q pk m i) 8 a0) false e)) := by cases pk <;> kernel_rfl
end
end Go.Proofs.YtmpidecpfcikoaaGreat.ReadStepsDone
namespace Go.Proofs.YtmpidecpfcikoaaGreat.ReadStepsDone
open Go Go.Proofs Go.Proofs.YtmpidecpfcikoaaGreat.Ev Go.Proofs.YtmpidecpfcikoaaGreat.Ct
open Go.RowKit

abbrev kw (pk : Pk) (m : Mm) (i : Nat) (a0 : Int) : Int := kd (Q pk m i) 8 a0
def sQ (x : List Int) : List Prop := [((x.length : Int) == 0) = false, (0 : Int) ≤ 0, (0 : Int) < (x.length : Int), addN 0 (mulN 0 1) < x.length]
abbrev hd0 (x : List Int) : Int := x.getD (addN 0 (mulN 0 1)) 0
open Dec in
section
variable (l : List Int) (off : Nat) (pk : Pk) (h key st : Int) (m : Mm) (r : Rd) (i : Nat) (a0 a1 n w told e nx : Int) (g : Et) (j : Jd) (o : On) (v : Lv)
theorem r_2m : run EsN 12 (bd fn lp) nB live 2 [] (fr l off pk h key st m m r ⟨a0, a1, 2, n, w, g, j, o, v, told, e, false⟩ .nil (i : Int) [t, Dec.l, Dec.l, Dec.l, Dec.l, t, Dec.l, Dec.l, f, f]) = some (.normal, fr l off pk h key st (rdMe r (M1 pk i m)) (mLd (Q pk m i) 8 a0) (rdSt r (M1 pk i m)) ⟨a0, a1, 6, n, kw pk m i a0, g, j, o, ⟨a1, 0, -1, false, false⟩, 0, e, false⟩ .nil (w64 ((i : Int) + 1)) [], hQ pk st m r i ++ (rr (Q pk m i) :: Wd (kw pk m i a0) :: (hasI (kw pk m i a0) 0 a1 = true) :: (Wd (kw pk m i a0) ∧ othL (kw pk m i a0) 1 a1 = []) :: tQ pk m r i 25 (mLd (Q pk m i) 8 a0) false e)) := by cases pk <;> kernel_rfl
theorem r_2s : run EsO 12 (bd fn lp) (nB ++ [46, 47]) live 2 [] (fr l off pk h key st m m r ⟨a0, a1, 2, n, w, g, j, o, v, told, e, false⟩ .nil (i : Int) [t, Dec.l, Dec.l, Dec.l, Dec.l, t, f, Dec.l, f, f]) = some (.normal, fr l off pk h key st (rdMe r (M1 pk i m)) (mLd (Q pk m i) 8 a0) (rdSt r (M1 pk i m)) ⟨a0, a1, 4, n, kw pk m i a0, g, ⟨hd0 (othL (kw pk m i a0) 1 a1), 1, a1, n, 0, 0, 0⟩, o, v, told, e, false⟩ (.z (othL (kw pk m i a0) 1 a1)) (w64 ((i : Int) + 1)) [], hQ pk st m r i ++ (rr (Q pk m i) :: Wd (kw pk m i a0) :: (hasI (kw pk m i a0) 0 a1 = true) :: (Wd (kw pk m i a0) ∧ othL (kw pk m i a0) 1 a1 ≠ []) :: (sQ (othL (kw pk m i a0) 1 a1) ++ tQ pk m r i 25 (mLd (Q pk m i) 8 a0) false e))) := by cases pk <;> kernel_rfl
theorem r_3n : run Er4o 12 (bd fn lp) nB live 2 [] (fr l off pk h key st m m r ⟨a0, a1, 3, n, w, g, j, o, v, told, e, false⟩ .nil (i : Int) [t, Dec.l, Dec.l, Dec.l, Dec.l, Dec.l, f, Dec.l, f, f]) = some (.normal, fr l off pk h key st (rdMe r (M1 pk i m)) (mSw (Q pk m i) 8 a0 w (withI w 0 a1)) (rdSt r (M1 pk i m)) ⟨a0, a1, 2, n, w, g, j, o, v, told, e, false⟩ .nil (w64 ((i : Int) + 1)) [], hQ pk st m r i ++ (Wd w :: rr (Q pk m i) :: (dnS (Q pk m i) 8 a0 w = false) :: tQ pk m r i 25 (mSw (Q pk m i) 8 a0 w (withI w 0 a1)) false e)) := by cases pk <;> kernel_rfl
theorem r_3m : run EsN 12 (bd fn lp) nB live 2 [] (fr l off pk h key st m m r ⟨a0, a1, 3, n, w, g, j, o, v, told, e, false⟩ .nil (i : Int) [t, Dec.l, Dec.l, Dec.l, Dec.l, Dec.l, t, Dec.l, Dec.l, f, f]) = some (.normal, fr l off pk h key st (rdMe r (M1 pk i m)) (mSw (Q pk m i) 8 a0 w (withI w 0 a1)) (rdSt r (M1 pk i m)) ⟨a0, a1, 6, n, w, g, j, o, ⟨a1, 0, -1, false, false⟩, 0, e, false⟩ .nil (w64 ((i : Int) + 1)) [], hQ pk st m r i ++ (Wd w :: rr (Q pk m i) :: (dnS (Q pk m i) 8 a0 w = true) :: (Wd w ∧ othL w 1 a1 = []) :: tQ pk m r i 25 (mSw (Q pk m i) 8 a0 w (withI w 0 a1)) false e)) := by cases pk <;> kernel_rfl
theorem r_6t : run Er4o 12 (bd fn lp) nB live 2 [] (fr l off pk h key st m m r ⟨a0, a1, 6, n, w, g, j, o, v, told, e, false⟩ .nil (i : Int) [t, Dec.l, Dec.l, Dec.l, Dec.l, Dec.l, Dec.l, Dec.l, t, Dec.l, f, f]) = some (.normal, fr l off pk h key st (rdMe r (M1 pk i m)) (lMe v (Q pk m i)) (rdSt r (M1 pk i m)) ⟨a0, a1, 6, n, w, g, j, o, lSt v (Q pk m i), told, told, true⟩ .nil (w64 ((i : Int) + 1)) [], hQ pk st m r i ++ ((lGood v (Q pk m i) ∧ (Q pk m i).c.Right) :: ((lSt v (Q pk m i)).dn = true) :: tQ pk m r i 25 (lMe v (Q pk m i)) true told)) := by cases pk <;> kernel_rfl
theorem r_6f : run Er4o 12 (bd fn lp) nB live 2 [] (fr l off pk h key st m m r ⟨a0, a1, 6, n, w, g, j, o, v, told, e, false⟩ .nil (i : Int) [t, Dec.l, Dec.l, Dec.l, Dec.l, Dec.l, Dec.l, Dec.l, f, Dec.l, f, f]) = some (.normal, fr l off pk h key st (rdMe r (M1 pk i m)) (lMe v (Q pk m i)) (rdSt r (M1 pk i m)) ⟨a0, a1, 6, n, w, g, j, o, lSt v (Q pk m i), told, e, false⟩ .nil (w64 ((i : Int) + 1)) [], hQ pk st m r i ++ ((lGood v (Q pk m i) ∧ (Q pk m i).c.Right) :: ((lSt v (Q pk m i)).dn = false) :: tQ pk m r i 25 (lMe v (Q pk m i)) false e)) := by cases pk <;> kernel_rfl
end
end Go.Proofs.YtmpidecpfcikoaaGreat.ReadStepsDone
