/- What 'WriteAlone' comes to, of any input: its frames. -/
import Derived.Test.YtocfhiafegkfkaaGreatCtWriteV
namespace Go.Proofs.YtocfhiafegkfkaaGreat.WriteAloneDone
open Go Go.Proofs Go.Proofs.YtocfhiafegkfkaaGreat.Ev Go.Proofs.YtocfhiafegkfkaaGreat.Ct
open Go.RowKit

noncomputable abbrev fn : Func := Tryz.f4
abbrev fid : FuncId := 4
noncomputable def Eg : Env := (Ev4o.add brF gBr).add goneF gGone
theorem Egok : EnvOk Eg := (Ev4ook.add gBr_ok).add gGone_ok
noncomputable def EA (w1 w0 cc : Bool) : Env := (Eg.add 27 (gOx w1 w0)).add cfF (bif cc then gC1 else gC0)
theorem EAok (w1 w0 cc : Bool) : EnvOk (EA w1 w0 cc) := by
  refine (Egok.add (gOx_ok (gO0_ok rOent fun h => ro_C0 h) (gO1_ok rOent fun h => ro_C1 h))).add ?_
  cases cc
  · exact gC0_ok
  · exact gC1_ok
theorem KC.env {E E' : Env} (h : E.P = E'.P) {m0 : Nat} {ex : Ex} {K : List Kt} {fr : Fr} {Fin : Ex → Fr → Prop} (hC : KC E' m0 ex K fr Fin) : KC E m0 ex K fr Fin := fun ρ a w Q hf hQ => by
  rw [h]
  exact hC ρ a w Q hf hQ
def args (c : Cfg) (a : Option Addr) (n cap : Nat) (h key st : Int) (sv : Value) : List Value := [c.v, .slice a n cap, .agg ⟨rowV [.u64, .i64, .i64] [h, key, st] ++ [sv]⟩]
abbrev A (c : Cfg) (l : List Int) (off cap : Nat) (pk : Pk) (h key st : Int) : List Value := args c (some ⟨0, off, none⟩) l.length cap h key st (pk.sv 1)
abbrev R (c : Cfg) (l : List Int) (h key : Int) : Nat × Wt × Mm := wrRun 300 0 (wrOf c h key) (newM c l)
abbrev lp : List Nat := [1, 1, 1, 1, 1, 1, 1, 1, 0, 1, 0, 1, 1, 0, 1, 0, 0]
abbrev live : List Nat := [1, 3, 5, 7, 10, 11, 12, 13, 16, 17, 87, 88, 89]
noncomputable abbrev start (c : Cfg) (l : List Int) (off cap : Nat) (pk : Pk) (h key st : Int) (ds : List Dec) : Fr := ⟨A c l off cap pk h key st ++ List.replicate 161 undef, plHp l off pk, ds, []⟩
abbrev obN : List Nat := rng 6 15
noncomputable abbrev K : List Kt := [.blk 0, .code (bd fn [1, 1, 1, 1, 1, 1, 1, 1, 0, 1, 0, 1, 1, 1]), .code (bd fn [1, 1, 1, 1, 1, 1, 1, 1, 1])]
def fr (c : Cfg) (l : List Int) (off cap : Nat) (pk : Pk) (h key st : Int) (o : Wt) (m : Mm) (L : List Int) (e sl w n k : Int) (ds : List Dec) : Fr := mkFr 164 [(1, .slice (some ⟨0, off, none⟩) l.length cap), (3, .pointer (some ⟨2, 0, none⟩)), (5, .pointer (some ⟨3, 0, none⟩)), (7, .pointer (some ⟨4, 0, none⟩)), (10, .pointer (some ⟨6, 0, none⟩)), (11, .slice (some ⟨0, off, none⟩) l.length cap), (12, .int .i64 e), (13, .int .i64 sl), (16, .int .u64 w), (17, .int .u64 n), (87, .slice (some ⟨21, 0, some 22⟩) L.length 0), (88, .int .i64 L.length), (89, .int .i64 k)]
  ((plHp l off pk).blks ++ ([(2, .cells c.cells 24), (3, .cells (rowV [.u64, .i64, .i64] [h, key, st] ++ [pk.sv 1]) 46), (4, .cells (m.cells 5) memT), (5, .ints .u64 m.w u64T)] ++ (optL wrF obN o.enc obN 0 ++ [(21, .own (.ints .i64 L intT) 22)]))) 23 [] ds
def bk (c : Cfg) (l : List Int) (off : Nat) (pk : Pk) (h key st : Int) (o : Wt) (m : Mm) : List (Nat × Blk) := (plHp l off pk).blks ++ ([(2, .cells c.cells 24), (3, .cells (rowV [.u64, .i64, .i64] [h, key, st] ++ [pk.sv 1]) 46), (4, .cells (m.cells 5) memT), (5, .ints .u64 m.w u64T)] ++ optL wrF obN o.enc obN 0)
/-- No rivals. -/
def frN (c : Cfg) (l : List Int) (off cap : Nat) (pk : Pk) (h key st : Int) (o : Wt) (m : Mm) (e sl w n : Int) (ds : List Dec) : Fr := mkFr 164 [(1, .slice (some ⟨0, off, none⟩) l.length cap), (3, .pointer (some ⟨2, 0, none⟩)), (5, .pointer (some ⟨3, 0, none⟩)), (7, .pointer (some ⟨4, 0, none⟩)), (10, .pointer (some ⟨6, 0, none⟩)), (11, .slice (some ⟨0, off, none⟩) l.length cap), (12, .int .i64 e), (13, .int .i64 sl), (16, .int .u64 w), (17, .int .u64 n), (87, .slice none 0 0), (88, .int .i64 0), (89, .int .i64 0)] (bk c l off pk h key st o m) 21 [] ds
/-- Behind the rivals. -/
def frX (c : Cfg) (l : List Int) (off cap : Nat) (pk : Pk) (h key st : Int) (o : Wt) (m : Mm) (e sl w : Int) (ds : List Dec) : Fr := mkFr 164 [(1, .slice (some ⟨0, off, none⟩) l.length cap), (3, .pointer (some ⟨2, 0, none⟩)), (5, .pointer (some ⟨3, 0, none⟩)), (7, .pointer (some ⟨4, 0, none⟩)), (10, .pointer (some ⟨6, 0, none⟩)), (11, .slice (some ⟨0, off, none⟩) l.length cap), (12, .int .i64 e), (13, .int .i64 sl), (16, .int .u64 w)] (bk c l off pk h key st o m) 21 [] ds
def frE (l : List Int) (off : Nat) (pk : Pk) (b : Bool) : Fr := mkFr 164 [(6, .bool b)] (plHp l off pk).blks 2 [] []
abbrev liveX : List Nat := [1, 3, 5, 7, 10, 11, 12, 13, 16]
abbrev kv (c : Cfg) (l : List Int) (off : Nat) (kd x : Int) : Int := l.getD (oI off (cellIx c kd x)) 0
def aV (c : Cfg) (l : List Int) (off : Nat) (kd x : Int) : List Prop := [c.Right, 0 ≤ cellIx c kd x, cellIx c kd x < (l.length : Int), off ≤ addN off (mulN (cellIx c kd x).toNat 1), oI off (cellIx c kd x) < l.length]
def hV (L : List Int) (k : Nat) : List Prop := [decide ((k : Int) < (L.length : Int)) = true, 0 ≤ (k : Int), (k : Int) < (L.length : Int), addN 0 (mulN k 1) < L.length]
def gV (c : Cfg) (l L : List Int) (off : Nat) (n : Int) (k : Nat) (b : Bool) : List Prop := hV L k ++ ((decide (xI L k < c.s) = true) :: (aV c l off 4 (xI L k) ++ (aV c l off 6 (xI L k) ++ [Wd (kv c l off 4 (xI L k)), (!goneI (kv c l off 4 (xI L k)) (kv c l off 6 (xI L k)) n) = b])))
def q0 (c : Cfg) (l : List Int) (off : Nat) (h key : Int) : List Prop := [c.Right ∧ (l.length : Int) = c.len ∧ l.length = l.length ∧ off = off, isNewW c h key, wrP (rng 9 15) (wrOf c h key), qRunW 300 (wrOf c h key) (newM c l), off = off, l.length = l.length, c.Right ∧ (l.length : Int) = c.len ∧ WfW l ∧ Wd h, Wd h]
def qE (c : Cfg) (l : List Int) (h key : Int) (e : Int) (o : Nat) (W : List Int) : List Prop := [wrP (9 :: rng 24 14) (R c l h key).2.1, qAskW (R c l h key).2.1, (R c l h key).2.1.dn = true, wrP (9 :: rng 24 14) (R c l h key).2.1, qAskW (R c l h key).2.1, ((R c l h key).2.1.no == e) = true, (R c l h key).2.2.ok, (0 : Nat) = 0, o = o, (R c l h key).2.2.N ≤ (R c l h key).2.2.w.length, l.length ≤ W.length, (R c l h key).2.2.N ≤ 9223372036854775806]
def qI (c : Cfg) (l : List Int) (off : Nat) (h key : Int) : List Prop := q0 c l off h key ++ ([decide (key < 0) = false, decide (key ≥ c.k) = false, (brI c l h == 0) = true] ++ (aV c l off 8 key ++ aV c l off 5 (brS c h)))
/-- What is asked at the end. -/
def eQ (l : List Int) (o : Wt) (m : Mm) (e : Int) (W : List Int) : List Prop := [wrP obN o, qAskW o, o.dn = true, wrP obN o, qAskW o, (o.no == e) = true, m.ok, (0 : Nat) = 0, (0 : Nat) = 0, m.N ≤ m.w.length, l.length ≤ W.length, m.N ≤ 9223372036854775806]
abbrev P0 (c : Cfg) (l : List Int) (key w sl : Int) : List Int := (l.take l.length).set (iI (cellIx c 8 key)) (withI w 1 sl)
abbrev F8 (c : Cfg) (l : List Int) (off : Nat) (sl : Int) : List Int := (l.take l.length).set (iI (cellIx c 4 sl)) (mvI (kv c l off 4 sl) 5 false)
abbrev Cf (c : Cfg) (l : List Int) (key w sl : Int) : List Int × Bool := cfs c sl 1 (snWd c (P0 c l key w sl) sl) (P0 c l key w sl) (othL w 0 sl)
abbrev fin (w : List Int) (c : Cfg) (l : List Int) (sl : Int) : List Int := (w.take l.length).set (iI (cellIx c 4 sl)) (mvI (sI c w 4 sl) 5 false)
def uQ (l : List Int) (off : Nat) : List Prop := [l.length ≤ l.length, off = off, (0 + l.length) * 8 ≤ 140737488355328, 0 + l.length ≤ 9223372036854775807]
def kQ (c : Cfg) (l : List Int) (off : Nat) (key w e : Int) : List Prop := ((e == 0) = true) :: Wd w :: (uQ l off ++ [c.Right, 0 ≤ cellIx c 8 key, cellIx c 8 key < (l.length : Int), iI (cellIx c 8 key) < (l.take l.length).length])
def cQ (c : Cfg) (l : List Int) (key w sl : Int) (b m : Bool) : List Prop := [Wd w ∧ othL w 0 sl ≠ [], l.length = (P0 c l key w sl).length, (othL w 0 sl).length = (othL w 0 sl).length, CfOk c sl 1 (P0 c l key w sl) (othL w 0 sl), cfl c sl 1 (snWd c (P0 c l key w sl) sl) (P0 c l key w sl) (othL w 0 sl) = b, (!(Cf c l key w sl).2) = m]
def fQ (c : Cfg) (l : List Int) (sl : Int) (w : List Int) : List Prop := aQ c l.length w 4 sl ++ (Wd (sI c w 4 sl) :: pQ c l.length w (w.take l.length) sl)
def out (m : Mm) (l W : List Int) : Bool := m.w.take m.N == W.take l.length
open Dec in
section
variable (c : Cfg) (l L : List Int) (off cap : Nat) (pk : Pk) (h key st : Int) (o : Wt) (m : Mm) (e sl w n : Int) (k : Nat)
theorem p_k0 : callR (EA false false false) 20 fid (A c l off cap pk h key st) (plHp l off pk) [Dec.l, Dec.l, t, Dec.l, Dec.l, Dec.l, t, t] [0, 1] = some (.bool (out (R c l h key).2.2 l l), plHp l off pk, q0 c l off h key ++ ((decide (key < 0) = true) :: qE c l h key 5 off l)) := by cases pk <;> kernel_rfl
theorem p_k1 : callR (EA false false false) 20 fid (A c l off cap pk h key st) (plHp l off pk) [Dec.l, Dec.l, f, t, Dec.l, Dec.l, t, t] [0, 1] = some (.bool (out (R c l h key).2.2 l l), plHp l off pk, q0 c l off h key ++ ((decide (key < 0) = false) :: (decide (key ≥ c.k) = true) :: qE c l h key 5 off l)) := by cases pk <;> kernel_rfl
theorem p_e : callR (EA false false false) 20 fid (A c l off cap pk h key st) (plHp l off pk) [Dec.l, Dec.l, f, f, f, Dec.l, t, t] [0, 1] = some (.bool (out (R c l h key).2.2 l l), plHp l off pk, q0 c l off h key ++ ((decide (key < 0) = false) :: (decide (key ≥ c.k) = false) :: ((brI c l h == 0) = false) :: qE c l h key (brI c l h) off l)) := by cases pk <;> kernel_rfl
theorem p_in : execR (EA true false false) 12 .normal [.code (bd fn [])] ([0, 1, 2, 3, 4, 5, 9] ++ rng 24 14 ++ [40, 41]) live 2 [] (start c l off cap pk h key st [Dec.l, Dec.l, f, f, t]) = some (.normal, .code (.loop (bd fn lp)) :: K, fr c l off cap pk h key st (R c l h key).2.1 (R c l h key).2.2 (othL (kv c l off 8 key) 1 (brS c h)) (brI c l h) (brS c h) (kv c l off 8 key) (kv c l off 5 (brS c h)) 0 [], qI c l off h key ++ [Wd (kv c l off 8 key) ∧ othL (kv c l off 8 key) 1 (brS c h) ≠ []]) := by cases pk <;> kernel_rfl
theorem p_in0 : execR (EA false false false) 12 .normal [.code (bd fn [])] ([0, 1, 2, 3, 4, 5, 9] ++ rng 24 14) live 2 [] (start c l off cap pk h key st [Dec.l, Dec.l, f, f, t]) = some (.normal, .code (.loop (bd fn lp)) :: K, frN c l off cap pk h key st (R c l h key).2.1 (R c l h key).2.2 (brI c l h) (brS c h) (kv c l off 8 key) (kv c l off 5 (brS c h)) [], qI c l off h key ++ [Wd (kv c l off 8 key) ∧ othL (kv c l off 8 key) 1 (brS c h) = []]) := by cases pk <;> kernel_rfl
theorem r_c : run Eg 12 (bd fn lp) (rng 0 23) live 2 [] (fr c l off cap pk h key st o m L e sl w n (k : Int) [t, t, t]) = some (.normal, fr c l off cap pk h key st o m L 8 sl w n (w64 ((k : Int) + 1)) [], gV c l L off n k true) := by cases pk <;> kernel_rfl
theorem r_g : run Eg 12 (bd fn lp) (rng 0 23) live 2 [] (fr c l off cap pk h key st o m L e sl w n (k : Int) [t, t, f]) = some (.normal, fr c l off cap pk h key st o m L e sl w n (w64 ((k : Int) + 1)) [], gV c l L off n k false) := by cases pk <;> kernel_rfl
theorem r_o : run Eg 12 (bd fn lp) (rng 0 23) live 2 [] (fr c l off cap pk h key st o m L e sl w n (k : Int) [t, f, Dec.l]) = some (.normal, fr c l off cap pk h key st o m L e sl w n (w64 ((k : Int) + 1)) [], hV L k ++ [decide (xI L k < c.s) = false]) := by cases pk <;> kernel_rfl
theorem p_x : run Eg 12 (bd fn lp) (rng 0 21) liveX 2 [] (fr c l off cap pk h key st o m L e sl w n (k : Int) [f]) = some (.exit 0, frX c l off cap pk h key st o m e sl w [], [decide ((k : Int) < (L.length : Int)) = false]) := by cases pk <;> kernel_rfl
theorem p_x0 : run Eg 12 (bd fn lp) (rng 0 21) liveX 2 [] (frN c l off cap pk h key st o m e sl w n [Dec.l]) = some (.exit 0, frX c l off cap pk h key st o m e sl w [], []) := by cases pk <;> kernel_rfl
theorem y_8 : execR (EA false false false) 12 (.exit 0) K [0, 1] [6] 2 [] (frX c l off cap pk h key st o m 8 sl w [Dec.l, Dec.l, Dec.l, t, t]) = some (.ret, [], frE l off pk (out m l (F8 c l off sl)), aV c l off 4 sl ++ (Wd (kv c l off 4 sl) :: (uQ l off ++ ([c.Right, 0 ≤ cellIx c 4 sl, cellIx c 4 sl < (l.length : Int), iI (cellIx c 4 sl) < (l.take l.length).length] ++ eQ l o m 8 (F8 c l off sl))))) := by cases pk <;> kernel_rfl
theorem y_0 : execR (EA false false false) 12 (.exit 0) K [0, 1] [6] 2 [] (frX c l off cap pk h key st o m e sl w [t, Dec.l, f, Dec.l, t, t]) = some (.ret, [], frE l off pk (out m l (P0 c l key w sl)), kQ c l off key w e ++ ([Wd w ∧ othL w 0 sl = [], l.length = (P0 c l key w sl).length, CfOk c sl 1 (P0 c l key w sl) [], (e != 0) = false] ++ eQ l o m e (P0 c l key w sl))) := by cases pk <;> kernel_rfl
theorem y_1m : execR (EA false true false) 12 (.exit 0) K [0, 1] [6] 2 [] (frX c l off cap pk h key st o m e sl w [t, f, f, Dec.l, t, t]) = some (.ret, [], frE l off pk (out m l (P0 c l key w sl)), kQ c l off key w e ++ (cQ c l key w sl false false ++ (((e != 0) = false) :: eQ l o m e (P0 c l key w sl)))) := by cases pk <;> kernel_rfl
theorem y_1f : execR (EA false true false) 12 (.exit 0) K [0, 1] [6] 2 [] (frX c l off cap pk h key st o m e sl w [t, t, Dec.l, Dec.l, t, t]) = some (.ret, [], frE l off pk (out m l (fin (P0 c l key w sl) c l sl)), kQ c l off key w e ++ (cQ c l key w sl false true ++ (fQ c l sl (P0 c l key w sl) ++ eQ l o m 7 (fin (P0 c l key w sl) c l sl)))) := by cases pk <;> kernel_rfl
theorem y_2m : execR (EA false true true) 12 (.exit 0) K [0, 1] [6] 2 [] (frX c l off cap pk h key st o m e sl w [t, f, f, Dec.l, t, t]) = some (.ret, [], frE l off pk (out m l (Cf c l key w sl).1), kQ c l off key w e ++ (cQ c l key w sl true false ++ (((e != 0) = false) :: eQ l o m e (Cf c l key w sl).1))) := by cases pk <;> kernel_rfl
theorem y_2f : execR (EA false true true) 12 (.exit 0) K [0, 1] [6] 2 [] (frX c l off cap pk h key st o m e sl w [t, t, Dec.l, Dec.l, t, t]) = some (.ret, [], frE l off pk (out m l (fin (Cf c l key w sl).1 c l sl)), kQ c l off key w e ++ (cQ c l key w sl true true ++ (fQ c l sl (Cf c l key w sl).1 ++ eQ l o m 7 (fin (Cf c l key w sl).1 c l sl)))) := by cases pk <;> kernel_rfl
theorem p_nr (a : Option Addr) (n : Nat) : told (doCall Ev4 20 fid (args c a n cap h key st (pk.sv 1)) ⟨[], 2, []⟩ (t :: List.replicate 16 Dec.l)) = some (.bool true, [(!rightB c) = true, isNewW c h key]) := by cases pk <;> kernel_rfl
theorem p_nl (a : Option Addr) (n : Nat) : told (doCall Ev4 20 fid (args c a n cap h key st (pk.sv 1)) ⟨[], 2, []⟩ (f :: t :: List.replicate 16 Dec.l)) = some (.bool true, [(!rightB c) = false, c.Right, ((n : Int) != c.len) = true, isNewW c h key]) := by cases pk <;> kernel_rfl
end
end Go.Proofs.YtocfhiafegkfkaaGreat.WriteAloneDone
