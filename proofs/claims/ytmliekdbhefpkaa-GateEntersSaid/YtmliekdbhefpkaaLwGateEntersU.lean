/- What 'GateEnters' comes to, of any input: its frames. -/
import Derived.Test.YtmliekdbhefpkaaCtPlain3
import Derived.Test.YtmliekdbhefpkaaEvSized
namespace Go.Proofs.Ytmliekdbhefpkaa.GateEntersDone
open Go Go.Proofs Go.Proofs.Ytmliekdbhefpkaa.Ev Go.Proofs.Ytmliekdbhefpkaa.Ct
open Go.RowKit

noncomputable abbrev fn : Func := Try.f14
abbrev fid : FuncId := 14
def zv (h st : Int) (a b : Value) : List Value := [.int .u64 h, a, .int .i64 st, b]
def args (c : Cfg) (a : Option Addr) (n cap : Nat) (ik : Ik) (pk : Pk) (h st : Int) : List Value := [c.v, .slice a n cap, .agg ⟨zv h st (ik.sv 1) (pk.sv 2)⟩]
abbrev A (c : Cfg) (l : List Int) (off cap : Nat) (ik : Ik) (pk : Pk) (h st : Int) : List Value := args c (some ⟨0, off, none⟩) l.length cap ik pk h st
def rw' : Ik → Rw
  | .nil => .nil
  | .row _ _ l => .row true (l.take l.length)
def esv (a b : Nat) : Ik → Value
  | .nil => .slice none 0 0
  | .row _ _ l => .slice (some ⟨a, 0, some b⟩) (addN 0 l.length) 0
def nx : Ik → Nat
  | .nil => 12
  | .row _ _ _ => 14
def lim (st : Int) : Int := if st > 0 then st else 0
/-- The document's machine. -/
def dEn (sv : Value) (e : En) : List Value := [.int .u64 e.h, sv, .bool e.tk, .int .u64 e.s, .int .u64 e.wd, .int .i64 e.no, .bool e.dn]
abbrev e0 (h : Int) (ik : Ik) : En := ⟨tkS h, 0, h, rw' ik, false, false, 0, 0⟩
def fr (c : Cfg) (l : List Int) (off : Nat) (ik : Ik) (pk : Pk) (h st : Int) (m q : Mm) (e d : En) (i : Int) (ds : List Dec) : Fr := mkFr 139 [(3, .pointer (some ⟨3, 0, none⟩)), (5, .pointer (some ⟨4, 0, none⟩)), (7, .pointer (some ⟨5, 0, none⟩)), (8, .pointer (some ⟨6, 0, none⟩)), (10, .pointer (some ⟨7, 0, none⟩)), (11, .pointer (some ⟨8, 0, none⟩)), (87, .int .i64 (lim st)), (88, .int .i64 i)]
  ((0, .view off (.ints .u64 l u64T)) :: (p3 ik pk ++ ([(3, .cells c.cells 24), (4, .cells (zv h st (ik.sv 1) (pk.sv 2)) 105), (5, .cells (m.cells 9) memT), (6, .cells (q.rcells 10 11) rmT), (7, .cells (En.cells (esv 12 13 ik) e) enT), (8, .cells (dEn (ik.sv 1) d) 114), (9, .ints .u64 m.w u64T), (10, .view 0 (.ints .u64 q.w u64T))] ++ (rw' ik).blk 12 13))) (nx ik) [] ds
def frX (l : List Int) (off : Nat) (ik : Ik) (pk : Pk) : Fr := mkFr 139 [] (p3Hp l off ik pk).blks 3 [] []
def frE (l : List Int) (off : Nat) (ik : Ik) (pk : Pk) : Fr := mkFr 139 [(6, .bool true)] (p3Hp l off ik pk).blks 3 [] []
abbrev lp : List Nat := [1, 1, 1, 1, 1, 1, 0, 1, 0, 0]
noncomputable abbrev K : List Kt := [.blk 0, .code (bd fn [1, 1, 1, 1, 1, 1, 1])]
abbrev live : List Nat := [3, 5, 7, 8, 10, 11, 87, 88]
def lenP : Ik → Prop
  | .nil => True
  | .row _ _ l => addN 0 l.length = (l.take l.length).length
def q0 (c : Cfg) (l : List Int) (off : Nat) : Prop := c.Right ∧ (l.length : Int) = c.len ∧ l.length = l.length ∧ off = off
def ikC : Ik → List Prop
  | .nil => []
  | .row of1 _ l => [l.length ≤ l.length, of1 = of1, (0 + l.length) * 8 ≤ 140737488355328, 0 + l.length ≤ 9223372036854775807]
def ikL : Ik → List Prop
  | .nil => []
  | .row _ _ l => [decide ((l.length : Int) > 50) = false]
abbrev dsK : Pk → Dec
  | .nil => Dec.l
  | .row _ _ _ => .f
abbrev dsI : Ik → Dec
  | .nil => Dec.l
  | .row _ _ _ => .f
abbrev M1 (pk : Pk) (i : Nat) (m : Mm) : Mm := pk.do (i : Int) m
/-- The entering, as it is handed on. -/
abbrev ew (ik : Ik) (e : En) : En := ⟨e.sl, e.s, e.h, rw' ik, e.tk, e.dn, e.no, e.wd⟩
noncomputable abbrev start (c : Cfg) (l : List Int) (off cap : Nat) (ik : Ik) (pk : Pk) (h st : Int) (ds : List Dec) : Fr := ⟨A c l off cap ik pk h st ++ List.replicate 136 undef, p3Hp l off ik pk, ds, []⟩
abbrev T0 (g : Prop) : Prop := ([] : List Value) = [] ∧ g
end Go.Proofs.Ytmliekdbhefpkaa.GateEntersDone
