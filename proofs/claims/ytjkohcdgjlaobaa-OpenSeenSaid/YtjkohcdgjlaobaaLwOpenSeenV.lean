/- What 'OpenSeen' comes to, of any input: its paths. -/
import Derived.Test.YtjkohcdgjlaobaaLwOpenSeenU
namespace Go.Proofs.Ytjkohcdgjlaobaa.OpenSeenDone
open Go Go.Proofs Go.Proofs.Ytjkohcdgjlaobaa.Ev Go.Proofs.Ytjkohcdgjlaobaa.Ct
open Go.RowKit

abbrev rd (of2 i : Nat) (L : List Int) (o : Ct.Op) : List Prop := [decide ((i : Int) < (L.length : Int)) = true, 0 ≤ (i : Int), (i : Int) < (L.length : Int), of2 ≤ addN of2 (mulN i 1), jv of2 i < L.length, oP [3, 4, 5] o, qAsk o]
abbrev Pm (m : Mm) (now : Int) : Mm := mSt m 1 0 (u64 (16 * u64 (now + 1)))
open Dec in
section
variable (c : Cfg) (q : Int) (ik : Ik) (m : Mm) (o : Ct.Op) (now : Int) (i of2 cap2 : Nat) (L : List Int)
theorem p_in : execR E50n 12 .normal [.code (bd fn [])] [0, 2, 3, 4, 5, 6] live 1 [] (start c q ik [Dec.l, Dec.l, Dec.l, dsB ik, f]) = some (.normal, .code (.loop (bd fn lp)) :: K, fr ik q (mSt (nwM c) 1 0 (u64 (16 * q))) op0 q 0 [], [c.Right, nil0] ++ (big ik ++ [decide (q > 1000) = false, (nwM c).ok])) := by cases ik <;> kernel_rfl
theorem p_go1 : run E50n 12 (bd fn lp) [0, 1, 2, 3, 7, 8] live 1 [] (fr (.row of2 cap2 L) q m o now (i : Int) [t, f, t]) = some (.normal, fr (.row of2 cap2 L) q (opMe o (Pm m now)) (opSt o (Pm m now)) (u64 (now + 1)) (w64 ((i : Int) + 1)) [], rd of2 i L o ++ [o.dn = false, (andI (L.getD (jv of2 i) 0) == 1) = true, m.ok, oP [3, 4, 5] o, nil0 ∧ isOp o.enc ∧ opGood o (Pm m now)]) := by kernel_rfl
theorem p_go0 : run E50n 12 (bd fn lp) [0, 1, 2, 3, 6, 7] live 1 [] (fr (.row of2 cap2 L) q m o now (i : Int) [t, f, f]) = some (.normal, fr (.row of2 cap2 L) q (opMe o m) (opSt o m) now (w64 ((i : Int) + 1)) [], rd of2 i L o ++ [o.dn = false, (andI (L.getD (jv of2 i) 0) == 1) = false, oP [3, 4, 5] o, nil0 ∧ isOp o.enc ∧ opGood o m]) := by kernel_rfl
theorem p_brk : run E50n 12 (bd fn lp) [0, 1, 2, 3, 4, 5] [1, 7, 9, 10] 1 [] (fr (.row of2 cap2 L) q m o now (i : Int) [t, t]) = some (.exit 0, frX (.row of2 cap2 L) q m o now [], rd of2 i L o ++ [o.dn = true]) := by kernel_rfl
theorem p_end : run E50n 12 (bd fn lp) [0, 1, 2, 3, 4, 5] [1, 7, 9, 10] 1 [] (fr ik q m o now (i : Int) [f]) = some (.exit 0, frX ik q m o now [], [decide ((i : Int) < (ik.len : Int)) = false]) := by cases ik <;> kernel_rfl
theorem p_out : execR E50n 12 (.exit 0) K [0] [6] 1 [] (frX ik q m o now [Dec.l, t, t, t, t]) = some (.ret, [], frE ik (getW (RR o m).2.2.w (cellIx (RR o m).2.2.c 5 0) == (RR o m).2.1.n), [oP [3, 4, 5] o, q100 o m, oP [3, 6, 7] (RR o m).2.1, qAsk (RR o m).2.1, oP [3, 6, 7] (RR o m).2.1, qAsk (RR o m).2.1, (RR o m).2.1.dn = true, ((RR o m).2.1.e == 0) = true, decide ((RR o m).2.1.n ≥ q) = true, decide ((RR o m).2.1.n ≤ now) = true, (RR o m).2.2.ok]) := by cases ik <;> kernel_rfl
theorem p_long : callR E50n 12 fid (A c q (.row of2 cap2 L)) (iHp (.row of2 cap2 L)) ([Dec.l, Dec.l, Dec.l, t] ++ List.replicate 9 Dec.l) [0] = some (.bool true, iHp (.row of2 cap2 L), [c.Right, nil0, decide ((L.length : Int) > 50) = true]) := by kernel_rfl
theorem p_bigq : callR E50n 12 fid (A c q ik) (iHp ik) ([Dec.l, Dec.l, Dec.l, dsB ik, t] ++ List.replicate 8 Dec.l) [0] = some (.bool true, iHp ik, [c.Right, nil0] ++ (big ik ++ [decide (q > 1000) = true])) := by cases ik <;> kernel_rfl
theorem p_nr : told (doCall E50 20 fid (A c q ik) ⟨[], 1, []⟩ (t :: List.replicate 16 Dec.l)) = some (.bool true, [0 ≤ c.len, 8 * c.len ≤ 281474976710656, c.len ≤ 9223372036854775807, (c.len == 0) = true, nil0]) := by cases ik <;> kernel_rfl
end
end Go.Proofs.Ytjkohcdgjlaobaa.OpenSeenDone
