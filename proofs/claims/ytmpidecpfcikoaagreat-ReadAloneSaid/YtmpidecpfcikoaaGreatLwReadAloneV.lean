/- What 'ReadAlone' comes to, of any input: its paths. -/
import Derived.Test.YtmpidecpfcikoaaGreatCtReadU
namespace Go.Proofs.YtmpidecpfcikoaaGreat.ReadAloneDone
open Go Go.Proofs Go.Proofs.YtmpidecpfcikoaaGreat.Ev Go.Proofs.YtmpidecpfcikoaaGreat.Ct
open Go.RowKit

abbrev fid : FuncId := 3
def args (c : Cfg) (a : Option Addr) (n cap : Nat) (h key st : Int) (sv : Value) : List Value := [c.v, .slice a n cap, .agg ⟨rowV [.u64, .i64, .i64] [h, key, st] ++ [sv]⟩]
abbrev A (c : Cfg) (l : List Int) (off cap : Nat) (pk : Pk) (h key st : Int) : List Value := args c (some ⟨0, off, none⟩) l.length cap h key st (pk.sv 1)
abbrev R (c : Cfg) (l : List Int) (h key : Int) : Nat × Rd × Mm := rdRun 300 0 (rdOf c h key) (newM c l)
abbrev kw (c : Cfg) (l : List Int) (off : Nat) (key : Int) : Int := l.getD (oI off (cellIx c 8 key)) 0
abbrev pk0 (c : Cfg) (l : List Int) (off : Nat) (h key : Int) : List Int := (l.take l.length).set (iI (cellIx c 8 key)) (withI (kw c l off key) 0 (brS c h))
abbrev oth (c : Cfg) (l : List Int) (off : Nat) (h key : Int) : List Int := othL (kw c l off key) 1 (brS c h)
abbrev Cf (c : Cfg) (l : List Int) (off : Nat) (h key : Int) : List Int × Bool := cfs c (brS c h) 0 (snWd c (pk0 c l off h key) (brS c h)) (pk0 c l off h key) (oth c l off h key)
abbrev fin (w : List Int) (c : Cfg) (l : List Int) (h : Int) : List Int := (w.take l.length).set (iI (cellIx c 4 (brS c h))) (mvI (sI c w 4 (brS c h)) 5 false)
def q0 (c : Cfg) (l : List Int) (off : Nat) (h key : Int) : List Prop := [c.Right ∧ (l.length : Int) = c.len ∧ l.length = l.length ∧ off = off, isNew c h key, rdP (rng 9 13) (rdOf c h key), qRun 300 (rdOf c h key) (newM c l), off = off, l.length = l.length, c.Right ∧ (l.length : Int) = c.len ∧ WfW l ∧ Wd h, Wd h]
def qE (c : Cfg) (l : List Int) (h key : Int) (e : Int) (o : Nat) (W : List Int) : List Prop := [rdP (9 :: rng 22 12) (R c l h key).2.1, qAsk (R c l h key).2.1, (R c l h key).2.1.dn = true, rdP (9 :: rng 22 12) (R c l h key).2.1, qAsk (R c l h key).2.1, ((R c l h key).2.1.no == e) = true, (R c l h key).2.2.ok, (0 : Nat) = 0, o = o, (R c l h key).2.2.N ≤ (R c l h key).2.2.w.length, l.length ≤ W.length, (R c l h key).2.2.N ≤ 9223372036854775806]
def qP (c : Cfg) (l : List Int) (off : Nat) (h key : Int) : List Prop := [decide (key < 0) = false, decide (key ≥ c.k) = false, (brI c l h == 0) = true, c.Right, 0 ≤ cellIx c 8 key, cellIx c 8 key < (l.length : Int), off ≤ addN off (mulN (cellIx c 8 key).toNat 1), oI off (cellIx c 8 key) < l.length, Wd (kw c l off key), l.length ≤ l.length, off = off, (0 + l.length) * 8 ≤ 140737488355328, 0 + l.length ≤ 9223372036854775807, c.Right, 0 ≤ cellIx c 8 key, cellIx c 8 key < (l.length : Int), iI (cellIx c 8 key) < (l.take l.length).length]
def qC (c : Cfg) (l : List Int) (off : Nat) (h key : Int) (b m : Bool) : List Prop := [Wd (kw c l off key) ∧ oth c l off h key ≠ [], l.length = (pk0 c l off h key).length, (oth c l off h key).length = (oth c l off h key).length, CfOk c (brS c h) 0 (pk0 c l off h key) (oth c l off h key), cfl c (brS c h) 0 (snWd c (pk0 c l off h key) (brS c h)) (pk0 c l off h key) (oth c l off h key) = b, (!(Cf c l off h key).2) = m]
def qF (c : Cfg) (l : List Int) (h : Int) (w : List Int) : List Prop := aQ c l.length w 4 (brS c h) ++ (Wd (sI c w 4 (brS c h)) :: pQ c l.length w (w.take l.length) (brS c h))
def out (c : Cfg) (l : List Int) (h key : Int) (W : List Int) : Bool := (R c l h key).2.2.w.take (R c l h key).2.2.N == W.take l.length
open Dec in
section
variable (c : Cfg) (l : List Int) (off cap : Nat) (pk : Pk) (h key st : Int)
theorem p_k0 : callR Ea 20 fid (A c l off cap pk h key st) (plHp l off pk) [Dec.l, Dec.l, t, Dec.l, Dec.l, Dec.l, t, t] [0, 1] = some (.bool (out c l h key l), plHp l off pk, q0 c l off h key ++ ((decide (key < 0) = true) :: qE c l h key 5 off l)) := by cases pk <;> kernel_rfl
theorem p_k1 : callR Ea 20 fid (A c l off cap pk h key st) (plHp l off pk) [Dec.l, Dec.l, f, t, Dec.l, Dec.l, t, t] [0, 1] = some (.bool (out c l h key l), plHp l off pk, q0 c l off h key ++ ((decide (key < 0) = false) :: (decide (key ≥ c.k) = true) :: qE c l h key 5 off l)) := by cases pk <;> kernel_rfl
theorem p_e : callR Ea 20 fid (A c l off cap pk h key st) (plHp l off pk) [Dec.l, Dec.l, f, f, f, Dec.l, t, t] [0, 1] = some (.bool (out c l h key l), plHp l off pk, q0 c l off h key ++ ((decide (key < 0) = false) :: (decide (key ≥ c.k) = false) :: ((brI c l h == 0) = false) :: qE c l h key (brI c l h) off l)) := by cases pk <;> kernel_rfl
theorem p_nil : callR Ea0 20 fid (A c l off cap pk h key st) (plHp l off pk) [Dec.l, Dec.l, f, f, t, Dec.l, Dec.l, t, t] [0, 1] = some (.bool (out c l h key (pk0 c l off h key)), plHp l off pk, q0 c l off h key ++ (qP c l off h key ++ ((Wd (kw c l off key) ∧ oth c l off h key = []) :: (l.length = (pk0 c l off h key).length) :: CfOk c (brS c h) 0 (pk0 c l off h key) [] :: qE c l h key (brI c l h) 0 (pk0 c l off h key)))) := by cases pk <;> kernel_rfl
theorem p_1m : callR Ea1 20 fid (A c l off cap pk h key st) (plHp l off pk) [Dec.l, Dec.l, f, f, t, f, Dec.l, t, t] [0, 1] = some (.bool (out c l h key (pk0 c l off h key)), plHp l off pk, q0 c l off h key ++ (qP c l off h key ++ (qC c l off h key false false ++ qE c l h key (brI c l h) 0 (pk0 c l off h key)))) := by cases pk <;> kernel_rfl
theorem p_1f : callR Ea1 20 fid (A c l off cap pk h key st) (plHp l off pk) [Dec.l, Dec.l, f, f, t, t, Dec.l, t, t] [0, 1] = some (.bool (out c l h key (fin (pk0 c l off h key) c l h)), plHp l off pk, q0 c l off h key ++ (qP c l off h key ++ (qC c l off h key false true ++ (qF c l h (pk0 c l off h key) ++ qE c l h key 7 0 (fin (pk0 c l off h key) c l h))))) := by cases pk <;> kernel_rfl
theorem p_2m : callR Ea2 20 fid (A c l off cap pk h key st) (plHp l off pk) [Dec.l, Dec.l, f, f, t, f, Dec.l, t, t] [0, 1] = some (.bool (out c l h key (Cf c l off h key).1), plHp l off pk, q0 c l off h key ++ (qP c l off h key ++ (qC c l off h key true false ++ qE c l h key (brI c l h) 0 (Cf c l off h key).1))) := by cases pk <;> kernel_rfl
theorem p_2f : callR Ea2 20 fid (A c l off cap pk h key st) (plHp l off pk) [Dec.l, Dec.l, f, f, t, t, Dec.l, t, t] [0, 1] = some (.bool (out c l h key (fin (Cf c l off h key).1 c l h)), plHp l off pk, q0 c l off h key ++ (qP c l off h key ++ (qC c l off h key true true ++ (qF c l h (Cf c l off h key).1 ++ qE c l h key 7 0 (fin (Cf c l off h key).1 c l h))))) := by cases pk <;> kernel_rfl
theorem p_nr (a : Option Addr) (n : Nat) : told (doCall Er4 20 fid (args c a n cap h key st (pk.sv 1)) ⟨[], 2, []⟩ (t :: List.replicate 16 Dec.l)) = some (.bool true, [(!rightB c) = true, isNew c h key]) := by cases pk <;> kernel_rfl
theorem p_nl (a : Option Addr) (n : Nat) : told (doCall Er4 20 fid (args c a n cap h key st (pk.sv 1)) ⟨[], 2, []⟩ (f :: t :: List.replicate 16 Dec.l)) = some (.bool true, [(!rightB c) = false, c.Right, ((n : Int) != c.len) = true, isNew c h key]) := by cases pk <;> kernel_rfl
end
end Go.Proofs.YtmpidecpfcikoaaGreat.ReadAloneDone
