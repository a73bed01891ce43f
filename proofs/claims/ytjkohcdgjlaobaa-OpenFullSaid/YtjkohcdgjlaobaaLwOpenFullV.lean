/- What 'OpenFull' comes to, of any input: its paths. -/
import Derived.Test.YtjkohcdgjlaobaaLwOpenFullU
namespace Go.Proofs.Ytjkohcdgjlaobaa.OpenFullDone
open Go Go.Proofs Go.Proofs.Ytjkohcdgjlaobaa.Ev Go.Proofs.Ytjkohcdgjlaobaa.Ct
open Go.RowKit

open Dec in
section
variable (c : Cfg) (m : Mm) (i : Nat) (o : Ct.Op) (n : Int) (N N' : Nat) (w w' : List Int)
theorem p_in : execR E50n 12 .normal [.code (bd fn [])] [0, 1, 2] live 0 [] (start c [Dec.l, Dec.l]) = some (.normal, .code (.loop (bd fn lp)) :: K, fr c (nwM c) 0 [], [c.Right]) := by kernel_rfl
theorem p_go : run E50n 12 (bd fn lp) [0, 1, 2] live 0 [] (fr c m (i : Int) [t, Dec.l, f]) = some (.normal, fr c (RR m).2.2 (w64 ((i : Int) + 1)) [], [decide ((i : Int) < c.s) = true, nil0, oP [3, 4, 5] op0, q100 op0 m, oP [3, 6, 7] (RR m).2.1, qAsk (RR m).2.1, (!(andL [(RR m).2.1.e == 0, (RR m).2.1.h == mkT i 0, (RR m).2.1.n == 0])) = false]) := by kernel_rfl
theorem p_end : run E50n 12 (bd fn lp) [0, 1, 2] [1, 3] 0 [] (fr c m (i : Int) [f]) = some (.exit 0, frX c m [], [decide ((i : Int) < c.s) = false]) := by kernel_rfl
theorem p_mid : execR E50n 12 (.exit 0) K [0, 3, 7, 8, 6, 9] live2 0 [] (frX c m [Dec.l]) = some (.normal, .code (.loop (bd fn lp2)) :: K2, fr2 c (RR m).2.1 (RR m).1 m.N (RR m).2.2.N m.w (RR m).2.2.w 0 [], [nil0, m.ok, oP [3, 4, 5] op0, q100 op0 m, (RR m).2.2.ok]) := by kernel_rfl
theorem p_go2 : run E50n 12 (bd fn lp2) [0, 1, 2, 3, 4, 5] live2 0 [] (fr2 c o n N N' w w' (i : Int) [t, f]) = some (.normal, fr2 c o n N N' w w' (w64 ((i : Int) + 1)) [], [decide ((i : Int) < (N : Int)) = true, 0 ≤ (i : Int), (i : Int) < (N : Int), addN 0 (mulN i 1) < w.length, 0 ≤ (i : Int), (i : Int) < (N' : Int), addN 0 (mulN i 1) < w'.length, (w.getD (addN 0 (mulN i 1)) 0 != w'.getD (addN 0 (mulN i 1)) 0) = false]) := by kernel_rfl
theorem p_end2 : run E50n 12 (bd fn lp2) [0, 1, 2, 3] [1, 9, 11] 0 [] (fr2 c o n N N' w w' (i : Int) [f]) = some (.exit 2, frY c o n [], [decide ((i : Int) < (N : Int)) = false]) := by kernel_rfl
theorem p_out : execR E50n 12 (.exit 2) K2 [] [2] 0 [] (frY c o n [Dec.l, t]) = some (.ret, [], frE (andL [o.e == 6, o.h == 0, o.n == 0]), [(n == c.s) = true, oP [1, 2, 3] o, qAsk o]) := by kernel_rfl
theorem p_nr : told (doCall E50 20 fid [c.v] ⟨[], 0, []⟩ (t :: List.replicate 16 Dec.l)) = some (.bool true, [0 ≤ c.len, 8 * c.len ≤ 281474976710656, c.len ≤ 9223372036854775807, (c.len == 0) = true]) := by kernel_rfl
end
end Go.Proofs.Ytjkohcdgjlaobaa.OpenFullDone
