/- What 'OpenAlone' comes to, of any input: its paths. -/
import Derived.Test.YtjkohcdgjlaobaaLwOpenAloneU
namespace Go.Proofs.Ytjkohcdgjlaobaa.OpenAloneDone
open Go Go.Proofs Go.Proofs.Ytjkohcdgjlaobaa.Ev Go.Proofs.Ytjkohcdgjlaobaa.Ct
open Go.RowKit

abbrev ix (c : Cfg) (l : List Int) (off : Nat) (i : Int) : List Prop := [0 ≤ cellIx c 4 i, cellIx c 4 i < (l.length : Int), off ≤ addN off (mulN (cellIx c 4 i).toNat 1), jI off (cellIx c 4 i) < l.length, Wd (at4 c l off i)]
abbrev q0w (l : List Int) (off : Nat) : Int := u64 (Int.tdiv (l.getD (addN off (mulN 0 1) - off) 0) 16)
abbrev W (c : Cfg) (l : List Int) (k n : Int) : Int := getW (RR c l).2.2.w (cellIx (RR c l).2.2.c k n)
open Dec in
section
variable (c : Cfg) (l : List Int) (off cap : Nat) (free i : Int)
theorem p_in : execR E50o 12 .normal [.code (bd fn [])] [0, 1, 2, 3, 7, 8, 9] live 1 [] (start c l off cap [Dec.l, Dec.l]) = some (.normal, .code (.loop (bd fn lp)) :: K, fr c l off cap (-1) (w64 (c.s - 1)) [], q0 c l off ++ [nil0]) := by kernel_rfl
theorem p_tt : run E50o 12 (bd fn lp) [0, 1, 2, 3, 4, 5, 6] live 1 [] (fr c l off cap free i [t, t, t]) = some (.normal, fr c l off cap i (w64 (i - 1)) [], [decide (i ≥ 0) = true] ++ (ix c l off i ++ [(nuI (at4 c l off i) 27 3 == 0) = true, Wd (at4 c l off i), decide (nuI (at4 c l off i) 30 32 ≤ c.g) = true])) := by kernel_rfl
theorem p_tf : run E50o 12 (bd fn lp) [0, 1, 2, 3, 4, 5, 6] live 1 [] (fr c l off cap free i [t, t, f]) = some (.normal, fr c l off cap free (w64 (i - 1)) [], [decide (i ≥ 0) = true] ++ (ix c l off i ++ [(nuI (at4 c l off i) 27 3 == 0) = true, Wd (at4 c l off i), decide (nuI (at4 c l off i) 30 32 ≤ c.g) = false])) := by kernel_rfl
theorem p_f : run E50o 12 (bd fn lp) [0, 1, 2, 3, 4, 5, 6] live 1 [] (fr c l off cap free i [t, f, Dec.l]) = some (.normal, fr c l off cap free (w64 (i - 1)) [], [decide (i ≥ 0) = true] ++ (ix c l off i ++ [(nuI (at4 c l off i) 27 3 == 0) = false])) := by kernel_rfl
theorem p_end : run E50o 12 (bd fn lp) [0, 1, 2, 3, 4, 5, 6] [1, 2, 5, 8, 9] 1 [] (fr c l off cap free i [f]) = some (.exit 0, frX c l off cap free [], [decide (i ≥ 0) = false]) := by kernel_rfl
theorem p_no : execR E50o 12 (.exit 0) K [0] [4] 1 [] (frX c l off cap free [t, Dec.l, t]) = some (.ret, [], frE l off (andL [(RR c l).2.1.e == 6, (RR c l).2.1.h == 0, (RR c l).2.1.n == 0]), [oP [4, 5, 6] op0, q100 op0 (newM c l), decide (free < 0) = true, oP [4, 7, 8] (RR c l).2.1, qAsk (RR c l).2.1, (RR c l).2.1.dn = true, oP [4, 7, 8] (RR c l).2.1, qAsk (RR c l).2.1]) := by kernel_rfl
theorem p_yes : execR E50o 12 (.exit 0) K [0] [4] 1 [] (frX c l off cap free [f, Dec.l, t, t, t, t]) = some (.ret, [], frE l off (Int.tmod (W c l 1 0) 16 == 0), [oP [4, 5, 6] op0, q100 op0 (newM c l), decide (free < 0) = false] ++ (ix c l off free ++ [(0 : Int) ≤ 0, (0 : Int) < (l.length : Int), off ≤ addN off (mulN 0 1), addN off (mulN 0 1) - off < l.length, (16 : Int) ≠ 0, oP [4, 7, 8] (RR c l).2.1, qAsk (RR c l).2.1, (RR c l).2.1.dn = true, oP [4, 7, 8] (RR c l).2.1, qAsk (RR c l).2.1, andL [(RR c l).2.1.e == 0, (RR c l).2.1.h == mkT free (nuI (at4 c l off free) 30 32), (RR c l).2.1.n == q0w l off] = true, (RR c l).2.2.ok, (W c l 5 free == q0w l off) = true, (RR c l).2.2.ok, Wd (W c l 4 free), (nuI (W c l 4 free) 27 3 == 2) = true, (RR c l).2.2.ok, (16 : Int) ≠ 0])) := by kernel_rfl
theorem p_nr (a : Option Addr) (n : Nat) : told (doCall E50 20 fid (args c a n cap) ⟨[], 1, []⟩ (t :: List.replicate 10 Dec.l)) = some (.bool true, [(!rightB c) = true, nil0]) := by kernel_rfl
theorem p_nl (a : Option Addr) (n : Nat) : told (doCall E50 20 fid (args c a n cap) ⟨[], 1, []⟩ (f :: t :: List.replicate 10 Dec.l)) = some (.bool true, [(!rightB c) = false, c.Right, ((n : Int) != c.len) = true, nil0]) := by kernel_rfl
end
end Go.Proofs.Ytjkohcdgjlaobaa.OpenAloneDone
