/- What 'OpenTwo' comes to, of any input: its paths. -/
import Derived.Test.YtjkohcdgjlaobaaLwOpenTwoU
namespace Go.Proofs.Ytjkohcdgjlaobaa.OpenTwoDone
open Go Go.Proofs Go.Proofs.Ytjkohcdgjlaobaa.Ev Go.Proofs.Ytjkohcdgjlaobaa.Ct
open Go.RowKit

abbrev rd (of2 i : Nat) (L : List Bool) : List Prop := [decide ((i : Int) < (L.length : Int)) = true, 0 ≤ (i : Int), (i : Int) < (L.length : Int), of2 ≤ addN of2 (mulN i 1), jv of2 i < L.length]
abbrev ends (a b : Ct.Op) (m : Mm) : List Prop := [oP [4, 5, 6] a, q100 a m, oP [7, 8, 9] b, q100 b (RA a m).2.2, oP [4, 10, 11] (RA a m).2.1, qAsk (RA a m).2.1, oP [7, 12, 13] (RB a b m).2.1, qAsk (RB a b m).2.1, oP [4, 10, 11] (RA a m).2.1, qAsk (RA a m).2.1, (!(RA a m).2.1.dn) = false, oP [7, 12, 13] (RB a b m).2.1, qAsk (RB a b m).2.1, (!(RB a b m).2.1.dn) = false]
open Dec in
section
variable (c : Cfg) (ik : Bk) (m : Mm) (a b : Ct.Op) (i of2 cap2 : Nat) (L : List Bool)
theorem p_in : execR E50n 12 .normal [.code (bd fn [])] [0, 1, 2, 3, 4, 5, 6, 7, 8, 9] live 1 [] (start c ik [Dec.l, Dec.l, Dec.l, Dec.l, dsB ik]) = some (.normal, .code (.loop (bd fn lp)) :: K, fr ik c (nwM c) op0 op0 0 [], [c.Right, nil0, nil0] ++ big ik) := by cases ik <;> kernel_rfl
theorem p_a : run E50n 12 (bd fn lp) [0, 1, 2, 3, 4, 10, 11, 7, 8, 9] live 1 [] (fr (.row of2 cap2 L) c m a b (i : Int) [t, t]) = some (.normal, fr (.row of2 cap2 L) c (opMe a m) (opSt a m) b (w64 ((i : Int) + 1)) [], rd of2 i L ++ [L.getD (jv of2 i) false = true, oP [4, 5, 6] a, nil0 ∧ isOp a.enc ∧ opGood a m]) := by kernel_rfl
theorem p_b : run E50n 12 (bd fn lp) [0, 1, 2, 3, 4, 5, 6, 7, 10, 11] live 1 [] (fr (.row of2 cap2 L) c m a b (i : Int) [t, f]) = some (.normal, fr (.row of2 cap2 L) c (opMe b m) a (opSt b m) (w64 ((i : Int) + 1)) [], rd of2 i L ++ [L.getD (jv of2 i) false = false, oP [7, 8, 9] b, nil0 ∧ isOp b.enc ∧ opGood b m]) := by kernel_rfl
theorem p_end : run E50n 12 (bd fn lp) [0, 1, 2, 3, 4, 5, 6, 7, 8, 9] [2, 5, 7, 8] 1 [] (fr ik c m a b (i : Int) [f]) = some (.exit 0, frX ik c m a b [], [decide ((i : Int) < (ik.len : Int)) = false]) := by cases ik <;> kernel_rfl
theorem p_ok : execR E50n 12 (.exit 0) K [0] [4] 1 [] (frX ik c m a b [f, f, f, Dec.l, Dec.l, f, f, t, f, t]) = some (.ret, [], frE ik ((RB a b m).2.1.e == 0), ends a b m ++ [((RA a m).2.1.e != 0) = false, ((RA a m).2.1.e != 0) = false, ((RB a b m).2.1.e != 0) = false, ((RA a m).2.1.h != (RB a b m).2.1.h) = true, decide (c.s < 2) = false, ((RA a m).2.1.e == 0) = true]) := by cases ik <;> kernel_rfl
theorem p_ok1 : execR E50n 12 (.exit 0) K [0] [4] 1 [] (frX ik c m a b [f, f, f, Dec.l, Dec.l, f, f, t, t]) = some (.ret, [], frE ik true, ends a b m ++ [((RA a m).2.1.e != 0) = false, ((RA a m).2.1.e != 0) = false, ((RB a b m).2.1.e != 0) = false, ((RA a m).2.1.h != (RB a b m).2.1.h) = true, decide (c.s < 2) = true]) := by cases ik <;> kernel_rfl
theorem p_xE : execR E50n 12 (.exit 0) K [0] [4] 1 [] (frX ik c m a b [f, f, t, f, Dec.l, t, Dec.l, Dec.l, t]) = some (.ret, [], frE ik true, ends a b m ++ [((RA a m).2.1.e != 0) = true, ((RB a b m).2.1.e != 0) = false, ((RA a m).2.1.e != 0) = true, decide (c.s < 2) = true]) := by cases ik <;> kernel_rfl
theorem p_yE : execR E50n 12 (.exit 0) K [0] [4] 1 [] (frX ik c m a b [f, f, f, Dec.l, Dec.l, f, t, Dec.l, t]) = some (.ret, [], frE ik true, ends a b m ++ [((RA a m).2.1.e != 0) = false, ((RA a m).2.1.e != 0) = false, ((RB a b m).2.1.e != 0) = true, decide (c.s < 2) = true]) := by cases ik <;> kernel_rfl
theorem p_long : callR E50n 12 fid (A c (.row of2 cap2 L)) (iHp (.row of2 cap2 L)) ([Dec.l, Dec.l, Dec.l, Dec.l, t] ++ List.replicate 9 Dec.l) [0] = some (.bool true, iHp (.row of2 cap2 L), [c.Right, nil0, nil0, decide ((L.length : Int) > 200) = true]) := by kernel_rfl
theorem p_nr : told (doCall E50 20 fid (A c ik) ⟨[], 1, []⟩ (t :: List.replicate 16 Dec.l)) = some (.bool true, [0 ≤ c.len, 8 * c.len ≤ 281474976710656, c.len ≤ 9223372036854775807, (c.len == 0) = true, nil0, nil0]) := by cases ik <;> kernel_rfl
end
end Go.Proofs.Ytjkohcdgjlaobaa.OpenTwoDone
