/- What 'GateAlone' comes to, of any input: its paths. -/
import Derived.Test.YtmliekdbhefpkaaCtPlain3
import Derived.Test.YtmliekdbhefpkaaEvSized
namespace Go.Proofs.Ytmliekdbhefpkaa.GateAloneDone
open Go Go.Proofs Go.Proofs.Ytmliekdbhefpkaa.Ev Go.Proofs.Ytmliekdbhefpkaa.Ct
open Go.RowKit

noncomputable abbrev fn : Func := Try.f21
abbrev fid : FuncId := 21
def zv (h st : Int) (a b : Value) : List Value := [.int .u64 h, a, .int .i64 st, b]
def args (c : Cfg) (a : Option Addr) (n cap : Nat) (ik : Ik) (pk : Pk) (h st : Int) : List Value := [c.v, .slice a n cap, .agg ⟨zv h st (ik.sv 1) (pk.sv 2)⟩]
abbrev A (c : Cfg) (l : List Int) (off cap : Nat) (ik : Ik) (pk : Pk) (h st : Int) : List Value := args c (some ⟨0, off, none⟩) l.length cap ik pk h st
def rw' : Ik → Rw
  | .nil => .nil
  | .row _ _ l => .row true (l.take l.length)
def esv (a b : Nat) : Ik → Value
  | .nil => .slice none 0 0
  | .row _ _ l => .slice (some ⟨a, 0, some b⟩) (addN 0 l.length) 0
def nx : Ik → Nat
  | .nil => 8
  | .row _ _ _ => 10
abbrev e0 (h : Int) (ik : Ik) : En := ⟨tkS h, 0, h, rw' ik, false, false, 0, 0⟩
abbrev RR (c : Cfg) (l : List Int) (h : Int) (ik : Ik) : Nat × En × Mm := enRun 20 0 (e0 h ik) (newM c l)
def bl (c : Cfg) (l : List Int) (off : Nat) (ik : Ik) (pk : Pk) (m : Mm) (e : En) : List (Nat × Blk) := (0, .view off (.ints .u64 l u64T)) :: (p3 ik pk ++ ([(3, .cells c.cells 24), (4, .cells (m.cells 7) memT), (5, .cells (En.cells (esv 8 9 ik) e) enT), (6, .ints .u64 m.w u64T), (7, .ints .u64 m.w u64T)] ++ (rw' ik).blk 8 9))
def fr (c : Cfg) (l : List Int) (off cap : Nat) (ik : Ik) (pk : Pk) (m : Mm) (e : En) (n : Int) (en : Bool) (i : Int) (ds : List Dec) : Fr := mkFr 103 [(1, .slice (some ⟨0, off, none⟩) l.length cap), (3, .pointer (some ⟨3, 0, none⟩)), (7, .pointer (some ⟨4, 0, none⟩)), (10, .pointer (some ⟨5, 0, none⟩)), (11, .int .i64 n), (12, .bool en), (53, .slice (some ⟨6, 0, none⟩) m.N m.N), (54, .int .i64 m.N), (55, .int .i64 i)] (bl c l off ik pk m e) (nx ik) [] ds
def blX (l : List Int) (off : Nat) (ik : Ik) (pk : Pk) (m : Mm) (e : En) : List (Nat × Blk) := (0, .view off (.ints .u64 l u64T)) :: (p3 ik pk ++ ([(3, .cells (m.cells 5) memT), (4, .cells (En.cells (esv 6 7 ik) e) enT), (5, .ints .u64 m.w u64T)] ++ (rw' ik).blk 6 7))
def frX (l : List Int) (off : Nat) (ik : Ik) (pk : Pk) (m : Mm) (e : En) (n : Int) (en : Bool) (ds : List Dec) : Fr := mkFr 103 [(7, .pointer (some ⟨3, 0, none⟩)), (10, .pointer (some ⟨4, 0, none⟩)), (11, .int .i64 n), (12, .bool en)] (blX l off ik pk m e) (match ik with | .nil => 6 | .row _ _ _ => 8) [] ds
def frE (l : List Int) (off : Nat) (ik : Ik) (pk : Pk) (b : Bool) : Fr := mkFr 103 [(6, .bool b)] (p3Hp l off ik pk).blks 3 [] []
abbrev lp : List Nat := [1, 1, 1, 1, 1, 1, 0, 1, 0, 0]
noncomputable abbrev K : List Kt := [.blk 0, .code (bd fn [1, 1, 1, 1, 1, 1, 1])]
abbrev live : List Nat := [1, 3, 7, 10, 11, 12, 53, 54, 55]
abbrev at4 (c : Cfg) (i sl : Int) : Bool := andL [kindAt c i == 4, numAt c i == sl]
abbrev jv (off i : Nat) : Nat := addN off (mulN i 1) - off
def rd (l wf : List Int) (off i N : Nat) : List Prop := [decide ((i : Int) < (N : Int)) = true, 0 ≤ (i : Int), (i : Int) < (N : Int), addN 0 (mulN i 1) < wf.length, 0 ≤ (i : Int), (i : Int) < (l.length : Int), off ≤ addN off (mulN i 1), jv off i < l.length]
abbrev T20 (g : Prop) : Prop := ([.int .i64 20] : List Value) = [.int .i64 (numOf [.int .i64 20])] ∧ numOf [.int .i64 20] ≤ 1000 ∧ g
abbrev T0 (e : En) : Prop := ([] : List Value) = [] ∧ Wd e.h
def q0 (c : Cfg) (l : List Int) (off : Nat) : Prop := c.Right ∧ (l.length : Int) = c.len ∧ l.length = l.length ∧ off = off
def dsK : Ik → List Dec
  | .nil => [.l]
  | .row _ _ _ => [.f]
def lenP : Ik → Prop
  | .nil => True
  | .row _ _ l => addN 0 l.length = (l.take l.length).length
def ikC : Ik → List Prop
  | .nil => []
  | .row of1 _ l => [l.length ≤ l.length, of1 = of1, (0 + l.length) * 8 ≤ 140737488355328, 0 + l.length ≤ 9223372036854775807]
def ikL : Ik → List Prop
  | .nil => []
  | .row _ _ l => [decide ((l.length : Int) > 50) = false]
def nsI : Ik → List Nat
  | .nil => [0, 1, 2, 3, 5, 10, 11, 6]
  | .row _ _ _ => [0, 1, 2, 3, 5, 13, 14, 6, 11, 12]
def nsL : Ik → List Nat
  | .nil => [0, 1, 2, 3, 4, 5, 6, 7]
  | .row _ _ _ => [0, 1, 2, 3, 4, 5, 6, 7, 8, 9]
def nsX : Ik → List Nat
  | .nil => [0, 1, 2, 4, 5, 7]
  | .row _ _ _ => [0, 1, 2, 4, 5, 7, 8, 9]
open Dec in
section
variable (c : Cfg) (l : List Int) (off cap : Nat) (ik : Ik) (pk : Pk) (h st : Int) (m : Mm) (e : En) (n : Int) (en : Bool) (i : Nat)
noncomputable abbrev start (ds : List Dec) : Fr := ⟨A c l off cap ik pk h st ++ List.replicate 100 undef, p3Hp l off ik pk, ds, []⟩
theorem p_in : execR Eg10o 12 .normal [.code (bd fn [])] (nsI ik) live 3 [] (start c l off cap ik pk h st ([Dec.l, Dec.l, Dec.l] ++ dsK ik)) = some (.normal, .code (.loop (bd fn lp)) :: K, fr c l off cap ik pk (RR c l h ik).2.2 (RR c l h ik).2.1 (RR c l h ik).1 (errI (RR c l h ik).2.1 (RR c l h ik).2.2 == 0) 0 [],
    q0 c l off :: (ikC ik ++ (Wd h :: (ikL ik ++ [lenP ik, T20 (enGood (e0 h ik) (newM c l)), lenP ik, T0 (RR c l h ik).2.1, (RR c l h ik).2.2.ok])))) := by cases ik <;> cases pk <;> kernel_rfl
theorem p_big (of1 cap1 : Nat) (l1 : List Int) : callR Eg10o 12 fid (A c l off cap (.row of1 cap1 l1) pk h st) (p3Hp l off (.row of1 cap1 l1) pk) [Dec.l, Dec.l, Dec.l, t, Dec.l] [0, 1, 2] = some (.bool true, p3Hp l off (.row of1 cap1 l1) pk, q0 c l off :: (ikC (.row of1 cap1 l1) ++ [Wd h, decide ((l1.length : Int) > 50) = true])) := by cases pk <;> kernel_rfl
theorem l_a : run Eg10o 12 (bd fn lp) (nsL ik) live 3 [] (fr c l off cap ik pk m e n en (i : Int) [t, t, t, f]) = some (.normal, fr c l off cap ik pk m e n en (w64 ((i : Int) + 1)) [], rd l m.w off i m.N ++ [en = true, c.Right ∧ 0 ≤ (i : Int) ∧ (i : Int) < c.len, at4 c i e.sl = true, Wd (l.getD (jv off i) 0) ∧ (26 : Int) ≤ 63, (m.w.getD (addN 0 (mulN i 1)) 0 != putI (l.getD (jv off i) 0) 26 true) = false]) := by cases ik <;> cases pk <;> kernel_rfl
theorem l_n : run Eg10o 12 (bd fn lp) (nsL ik) live 3 [] (fr c l off cap ik pk m e n en (i : Int) [t, t, f, f]) = some (.normal, fr c l off cap ik pk m e n en (w64 ((i : Int) + 1)) [], rd l m.w off i m.N ++ [en = true, c.Right ∧ 0 ≤ (i : Int) ∧ (i : Int) < c.len, at4 c i e.sl = false, (m.w.getD (addN 0 (mulN i 1)) 0 != l.getD (jv off i) 0) = false]) := by cases ik <;> cases pk <;> kernel_rfl
theorem l_w : run Eg10o 12 (bd fn lp) (nsL ik) live 3 [] (fr c l off cap ik pk m e n en (i : Int) [t, f, Dec.l, f]) = some (.normal, fr c l off cap ik pk m e n en (w64 ((i : Int) + 1)) [], rd l m.w off i m.N ++ [en = false, (m.w.getD (addN 0 (mulN i 1)) 0 != l.getD (jv off i) 0) = false]) := by cases ik <;> cases pk <;> kernel_rfl
theorem l_e : run Eg10o 12 (bd fn lp) (nsX ik) [7, 10, 11, 12] 3 [] (fr c l off cap ik pk m e n en (i : Int) [f]) = some (.exit 0, frX l off ik pk m e n en [], [decide ((i : Int) < (m.N : Int)) = false]) := by cases ik <;> cases pk <;> kernel_rfl
theorem o_t : execR Eg10o 12 (.exit 0) K [0, 1, 2] [6] 3 [] (frX l off ik pk m e n en [Dec.l, t, t, t]) = some (.ret, [], frE l off ik pk true, [lenP ik, T0 e, (e.dn || !ofOk e.h m.c.s) = true, en = true, (n == 2) = true]) := by cases ik <;> cases pk <;> kernel_rfl
theorem o_f : execR Eg10o 12 (.exit 0) K [0, 1, 2] [6] 3 [] (frX l off ik pk m e n en [Dec.l, t, f, Dec.l, t]) = some (.ret, [], frE l off ik pk (decide (n ≤ 1)), [lenP ik, T0 e, (e.dn || !ofOk e.h m.c.s) = true, en = false, (!en) = true]) := by cases ik <;> cases pk <;> kernel_rfl
end
end Go.Proofs.Ytmliekdbhefpkaa.GateAloneDone
