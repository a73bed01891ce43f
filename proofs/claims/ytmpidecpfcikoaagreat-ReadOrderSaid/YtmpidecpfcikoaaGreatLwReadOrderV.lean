/- What 'ReadOrder' comes to, of any input: its paths. -/
import Derived.Test.YtmpidecpfcikoaaGreatCtReadO
namespace Go.Proofs.YtmpidecpfcikoaaGreat.ReadOrderDone
open Go Go.Proofs Go.Proofs.YtmpidecpfcikoaaGreat.Ev Go.Proofs.YtmpidecpfcikoaaGreat.Ct
open Go.RowKit

abbrev fid : FuncId := 5
def args (c : Cfg) (a : Option Addr) (n cap : Nat) (h key st : Int) (sv : Value) : List Value := [c.v, .slice a n cap, .agg ⟨rowV [.u64, .i64, .i64] [h, key, st] ++ [sv]⟩]
abbrev A (c : Cfg) (l : List Int) (off cap : Nat) (pk : Pk) (h key st : Int) : List Value := args c (some ⟨0, off, none⟩) l.length cap h key st (pk.sv 1)
abbrev Ra (c : Cfg) (l : List Int) (h key : Int) : Nat × Rd × Mm := rdRun 300 0 (rdOf c h key) (newM c l)
abbrev Rb (c : Cfg) (l : List Int) (h key k2 : Int) : Nat × Rd × Mm := rdRun 300 0 (rdOf c h k2) (Ra c l h key).2.2
abbrev q1 (c : Cfg) (l : List Int) (off : Nat) : Prop := c.Right ∧ (l.length : Int) = c.len ∧ l.length = l.length ∧ off = off
def q0 (c : Cfg) (l : List Int) (off : Nat) (h key k2 : Int) : List Prop := [q1 c l off, q1 c l off, decide (key < 0) = false, decide (key ≥ c.k) = false, isNew c h key, isNew c h k2, isNew c h k2, isNew c h key, rdP (rng 14 13) (rdOf c h key), qRun 300 (rdOf c h key) (newM c l), rdP (rng 27 13) (rdOf c h k2), qRun 300 (rdOf c h k2) (Ra c l h key).2.2, rdP (rng 40 13) (rdOf c h k2), qRun 300 (rdOf c h k2) (newM c l), rdP (rng 53 13) (rdOf c h key), qRun 300 (rdOf c h key) (Ra c l h k2).2.2, rdP (14 :: rng 66 12) (Ra c l h key).2.1, qAsk (Ra c l h key).2.1]
def qB (c : Cfg) (l : List Int) (h key k2 : Int) : List Prop := [rdP (27 :: rng 78 12) (Rb c l h key k2).2.1, qAsk (Rb c l h key k2).2.1]
def qX (c : Cfg) (l : List Int) (h k2 : Int) (b : Bool) : List Prop := [rdP (40 :: rng 90 12) (Ra c l h k2).2.1, qAsk (Ra c l h k2).2.1, ((Ra c l h k2).2.1.no == 0) = b]
def qY (c : Cfg) (l : List Int) (h key k2 : Int) : List Prop := [rdP (53 :: rng 102 12) (Rb c l h k2 key).2.1, qAsk (Rb c l h k2 key).2.1]
def qS (c : Cfg) (l : List Int) (h key k2 : Int) : List Prop := [(Rb c l h key k2).2.2.ok, (Rb c l h k2 key).2.2.ok, (0 : Nat) = 0, (0 : Nat) = 0, (Rb c l h key k2).2.2.N ≤ (Rb c l h key k2).2.2.w.length, (Rb c l h k2 key).2.2.N ≤ (Rb c l h k2 key).2.2.w.length, (Rb c l h key k2).2.2.N ≤ 9223372036854775806]
def same (c : Cfg) (l : List Int) (h key k2 : Int) : Bool := (Rb c l h key k2).2.2.w.take (Rb c l h key k2).2.2.N == (Rb c l h k2 key).2.2.w.take (Rb c l h k2 key).2.2.N
open Dec in
section
variable (c : Cfg) (l : List Int) (off cap : Nat) (pk : Pk) (h key st : Int)
theorem p_k0 : callR Er4o 20 fid (A c l off cap pk h key st) (plHp l off pk) [Dec.l, t, Dec.l, Dec.l, Dec.l] [0, 1] = some (.bool true, plHp l off pk, [q1 c l off, q1 c l off, decide (key < 0) = true]) := by cases pk <;> kernel_rfl
theorem p_k1 : callR Er4o 20 fid (A c l off cap pk h key st) (plHp l off pk) [Dec.l, f, t, Dec.l, Dec.l] [0, 1] = some (.bool true, plHp l off pk, [q1 c l off, q1 c l off, decide (key < 0) = false, decide (key ≥ c.k) = true]) := by cases pk <;> kernel_rfl
theorem p_tt : callR Er4o 20 fid (A c l off cap pk h key st) (plHp l off pk) [Dec.l, f, f, Dec.l, Dec.l, Dec.l, Dec.l, t, Dec.l, t, t, f] [0, 1] = some (.bool (same c l h key (w64 (c.k - 1))), plHp l off pk, q0 c l off h key (w64 (c.k - 1)) ++ (((Ra c l h key).2.1.no == 0) = true) :: (qB c l h key (w64 (c.k - 1)) ++ (qX c l h (w64 (c.k - 1)) true ++ (qY c l h key (w64 (c.k - 1)) ++ ((((Rb c l h key (w64 (c.k - 1))).2.1.no == 0) == ((Rb c l h (w64 (c.k - 1)) key).2.1.no == 0)) = true) :: ((!((Rb c l h key (w64 (c.k - 1))).2.1.no == 0)) = false) :: qS c l h key (w64 (c.k - 1)))))) := by cases pk <;> kernel_rfl
theorem p_tf : callR Er4o 20 fid (A c l off cap pk h key st) (plHp l off pk) [Dec.l, f, f, Dec.l, Dec.l, Dec.l, Dec.l, t, Dec.l, f, t, t] [0, 1] = some (.bool true, plHp l off pk, q0 c l off h key (w64 (c.k - 1)) ++ (((Ra c l h key).2.1.no == 0) = true) :: (qB c l h key (w64 (c.k - 1)) ++ (qX c l h (w64 (c.k - 1)) false ++ [(((Rb c l h key (w64 (c.k - 1))).2.1.no == 0) == false) = true, (!((Rb c l h key (w64 (c.k - 1))).2.1.no == 0)) = true]))) := by cases pk <;> kernel_rfl
theorem p_ft : callR Er4o 20 fid (A c l off cap pk h key st) (plHp l off pk) [Dec.l, f, f, Dec.l, Dec.l, Dec.l, Dec.l, f, Dec.l, t, t, Dec.l] [0, 1] = some (.bool true, plHp l off pk, q0 c l off h key (w64 (c.k - 1)) ++ (((Ra c l h key).2.1.no == 0) = false) :: (qX c l h (w64 (c.k - 1)) true ++ (qY c l h key (w64 (c.k - 1)) ++ [(false == ((Rb c l h (w64 (c.k - 1)) key).2.1.no == 0)) = true]))) := by cases pk <;> kernel_rfl
theorem p_ff : callR Er4o 20 fid (A c l off cap pk h key st) (plHp l off pk) [Dec.l, f, f, Dec.l, Dec.l, Dec.l, Dec.l, f, Dec.l, f, Dec.l, Dec.l] [0, 1] = some (.bool true, plHp l off pk, q0 c l off h key (w64 (c.k - 1)) ++ (((Ra c l h key).2.1.no == 0) = false) :: qX c l h (w64 (c.k - 1)) false) := by cases pk <;> kernel_rfl
theorem p_nr (a : Option Addr) (n : Nat) : told (doCall Er4 20 fid (args c a n cap h key st (pk.sv 1)) ⟨[], 2, []⟩ (t :: Dec.l :: t :: List.replicate 16 Dec.l)) = some (.bool true, [(!rightB c) = true, (!rightB c) = true]) := by cases pk <;> kernel_rfl
theorem p_nl (a : Option Addr) (n : Nat) : told (doCall Er4 20 fid (args c a n cap h key st (pk.sv 1)) ⟨[], 2, []⟩ (f :: t :: f :: t :: List.replicate 16 Dec.l)) = some (.bool true, [(!rightB c) = false, c.Right, ((n : Int) != c.len) = true, (!rightB c) = false, c.Right, ((n : Int) != c.len) = true]) := by cases pk <;> kernel_rfl
end
end Go.Proofs.YtmpidecpfcikoaaGreat.ReadOrderDone
