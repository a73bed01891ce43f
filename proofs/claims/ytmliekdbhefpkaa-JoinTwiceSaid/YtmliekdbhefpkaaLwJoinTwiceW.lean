/- What 'JoinTwice' comes to, of any input: it returns true and changes nothing that was there. -/
import Derived.Test.YtmliekdbhefpkaaCtPlain2
namespace Go.Proofs.Ytmliekdbhefpkaa.JoinTwiceDone
open Go Go.Proofs Go.Proofs.Ytmliekdbhefpkaa.Ev Go.Proofs.Ytmliekdbhefpkaa.Ct
open Go.RowKit

noncomputable abbrev fn : Func := Try.f5
abbrev fid : FuncId := 5
def zv (sl sd by' sn st : Int) (sv : Value) : List Value := [.int .i64 sl, .int .i64 sd, .int .i64 by', .int .u64 sn, .int .i64 st, sv]
def args (c : Cfg) (a : Option Addr) (n cap : Nat) (sl sd by' sn st : Int) (sv : Value) : List Value := [c.v, .slice a n cap, .agg ⟨zv sl sd by' sn st sv⟩]
abbrev jj (sl sd by' sn : Int) : Jn := ⟨sl, sd, by', 0, lookF, sn, 0⟩
abbrev RR (c : Cfg) (l : List Int) (sl sd by' sn : Int) : Nat × Jn × Mm := jrRun 20 0 (jj sl sd by' sn) (newM c l)
abbrev QQ (c : Cfg) (l : List Int) (sl sd by' sn : Int) : Nat × Jn × Mm := jrRun 20 0 (jj sl sd by' sn) (RR c l sl sd by' sn).2.2
abbrev OO (c : Cfg) (l : List Int) (sl sd by' sn : Int) : Nat × On × Mm := owRun 20 0 ⟨sl, sd, by', 0, false, false⟩ (QQ c l sl sd by' sn).2.2
def fr (l : List Int) (off : Nat) (pk : Pk) (x k : Int) (N M : Nat) (wa wb : List Int) (i : Int) (ds : List Dec) : Fr := mkFr 142 [(10, .int .i64 x), (12, .slice (some ⟨2, 0, none⟩) N N), (16, .int .i64 k), (17, .slice (some ⟨3, 0, none⟩) M M), (115, .int .i64 N), (116, .int .i64 i)]
  ((0, .view off (.ints .u64 l u64T)) :: (pk.blk 1 ++ [(2, .ints .u64 wa u64T), (3, .ints .u64 wb u64T)])) 4 [] ds
def frX (l : List Int) (off : Nat) (pk : Pk) (x k : Int) (ds : List Dec) : Fr := mkFr 142 [(10, .int .i64 x), (16, .int .i64 k)] (plHp l off pk).blks 2 [] ds
abbrev lp : List Nat := [1, 1, 1, 1, 1, 1, 1, 1, 1, 1, 0, 1, 0, 0]
noncomputable abbrev K : List Kt := [.blk 0, .code (bd fn [1, 1, 1, 1, 1, 1, 1, 1, 1, 1, 1])]
abbrev A (c : Cfg) (l : List Int) (off cap : Nat) (pk : Pk) (sl sd by' sn st : Int) : List Value := args c (some ⟨0, off, none⟩) l.length cap sl sd by' sn st (pk.sv 1)
noncomputable abbrev start (c : Cfg) (l : List Int) (off cap : Nat) (pk : Pk) (sl sd by' sn st : Int) (ds : List Dec) : Fr := ⟨A c l off cap pk sl sd by' sn st ++ List.replicate 139 undef, plHp l off pk, ds, []⟩
abbrev live : List Nat := [10, 12, 16, 17, 115, 116]
abbrev T20 (g : Prop) : Prop := ([.int .i64 20] : List Value) = [.int .i64 (numOf [.int .i64 20])] ∧ numOf [.int .i64 20] ≤ 1000 ∧ g
open Dec in
section
variable (c : Cfg) (l : List Int) (off cap : Nat) (pk : Pk) (sl sd by' sn st : Int) (x k : Int) (N M : Nat) (wa wb : List Int) (i : Nat)
theorem p_in : execR E52 12 .normal [.code (bd fn [])] [0, 1, 10, 13] live 2 [] (start c l off cap pk sl sd by' sn st [Dec.l, f, f, f, f, f, f, Dec.l, f, f]) = some (.normal, .code (.loop (bd fn lp)) :: K, fr l off pk (RR c l sl sd by' sn).2.1.r (OO c l sl sd by' sn).1 (RR c l sl sd by' sn).2.2.N (OO c l sl sd by' sn).2.2.N (RR c l sl sd by' sn).2.2.w (OO c l sl sd by' sn).2.2.w 0 [], [c.Right ∧ ↑l.length = c.len ∧ l.length = l.length ∧ off = off, decide (sl < 0) = false, decide (sl ≥ c.s) = false, decide (by' < 0) = false, decide (by' > 11) = false, decide (sd < 0) = false, decide (sd > 1) = false, T20 (jGood (jj sl sd by' sn) (newM c l)), (RR c l sl sd by' sn).2.2.ok, T20 (jGood (jj sl sd by' sn) (RR c l sl sd by' sn).2.2), ((RR c l sl sd by' sn).2.1.r != (QQ c l sl sd by' sn).2.1.r) = false, decide (((QQ c l sl sd by' sn).1 : Int) > 2) = false, T20 (oGood ⟨sl, sd, by', 0, false, false⟩ (QQ c l sl sd by' sn).2.2), (OO c l sl sd by' sn).2.2.ok]) := by cases pk <;> kernel_rfl
theorem p_g0 : callR E52 12 fid (A c l off cap pk sl sd by' sn st) (plHp l off pk) [Dec.l, t, Dec.l, Dec.l, Dec.l, Dec.l, Dec.l, Dec.l] [0, 1] = some (.bool true, plHp l off pk, [c.Right ∧ ↑l.length = c.len ∧ l.length = l.length ∧ off = off, decide (sl < 0) = true]) := by cases pk <;> kernel_rfl
theorem p_g1 : callR E52 12 fid (A c l off cap pk sl sd by' sn st) (plHp l off pk) [Dec.l, f, t, Dec.l, Dec.l, Dec.l, Dec.l, Dec.l] [0, 1] = some (.bool true, plHp l off pk, [c.Right ∧ ↑l.length = c.len ∧ l.length = l.length ∧ off = off, decide (sl < 0) = false, decide (sl ≥ c.s) = true]) := by cases pk <;> kernel_rfl
theorem p_g2 : callR E52 12 fid (A c l off cap pk sl sd by' sn st) (plHp l off pk) [Dec.l, f, f, t, Dec.l, Dec.l, Dec.l, Dec.l] [0, 1] = some (.bool true, plHp l off pk, [c.Right ∧ ↑l.length = c.len ∧ l.length = l.length ∧ off = off, decide (sl < 0) = false, decide (sl ≥ c.s) = false, decide (by' < 0) = true]) := by cases pk <;> kernel_rfl
theorem p_g3 : callR E52 12 fid (A c l off cap pk sl sd by' sn st) (plHp l off pk) [Dec.l, f, f, f, t, Dec.l, Dec.l, Dec.l] [0, 1] = some (.bool true, plHp l off pk, [c.Right ∧ ↑l.length = c.len ∧ l.length = l.length ∧ off = off, decide (sl < 0) = false, decide (sl ≥ c.s) = false, decide (by' < 0) = false, decide (by' > 11) = true]) := by cases pk <;> kernel_rfl
theorem p_g4 : callR E52 12 fid (A c l off cap pk sl sd by' sn st) (plHp l off pk) [Dec.l, f, f, f, f, t, Dec.l, Dec.l] [0, 1] = some (.bool true, plHp l off pk, [c.Right ∧ ↑l.length = c.len ∧ l.length = l.length ∧ off = off, decide (sl < 0) = false, decide (sl ≥ c.s) = false, decide (by' < 0) = false, decide (by' > 11) = false, decide (sd < 0) = true]) := by cases pk <;> kernel_rfl
theorem p_g5 : callR E52 12 fid (A c l off cap pk sl sd by' sn st) (plHp l off pk) [Dec.l, f, f, f, f, f, t, Dec.l] [0, 1] = some (.bool true, plHp l off pk, [c.Right ∧ ↑l.length = c.len ∧ l.length = l.length ∧ off = off, decide (sl < 0) = false, decide (sl ≥ c.s) = false, decide (by' < 0) = false, decide (by' > 11) = false, decide (sd < 0) = false, decide (sd > 1) = true]) := by cases pk <;> kernel_rfl
theorem l_2 : run E52 12 (bd fn lp) [0, 1, 2, 3] live 2 [] (fr l off pk x k N M wa wb (i : Int) [t, t, f]) = some (.normal, fr l off pk x k N M wa wb (w64 ((i : Int) + 1)) [], [decide ((i : Int) < (N : Int)) = true, (x == 2) = true, 0 ≤ (i : Int), (i : Int) < (N : Int), i < wa.length, 0 ≤ (i : Int), (i : Int) < (M : Int), i < wb.length, (wa.getD i 0 != wb.getD i 0) = false]) := by cases pk <;> kernel_rfl
theorem l_n : run E52 12 (bd fn lp) [0, 1, 2, 3] live 2 [] (fr l off pk x k N M wa wb (i : Int) [t, f, Dec.l]) = some (.normal, fr l off pk x k N M wa wb (w64 ((i : Int) + 1)) [], [decide ((i : Int) < (N : Int)) = true, (x == 2) = false]) := by cases pk <;> kernel_rfl
theorem l_e : run E52 12 (bd fn lp) [0, 1] [10, 16] 2 [] (fr l off pk x k N M wa wb (i : Int) [f]) = some (.exit 0, frX l off pk x k [], [decide ((i : Int) < (N : Int)) = false]) := by cases pk <;> kernel_rfl
theorem o_2 : execR E52 12 (.exit 0) K [0, 1] [6] 2 [] (frX l off pk x k [Dec.l, f]) = some (.ret, [], mkFr 142 [(6, .bool (k == 1))] (plHp l off pk).blks 2 [] [], [(x != 2) = false]) := by cases pk <;> kernel_rfl
theorem o_n : execR E52 12 (.exit 0) K [0, 1] [6] 2 [] (frX l off pk x k [Dec.l, t]) = some (.ret, [], mkFr 142 [(6, .bool true)] (plHp l off pk).blks 2 [] [], [(x != 2) = true]) := by cases pk <;> kernel_rfl
theorem p_nr (a : Option Addr) (n : Nat) : told (doCall E51 20 fid (args c a n cap sl sd by' sn st (pk.sv 1)) ⟨[], 2, []⟩ (t :: List.replicate 16 Dec.l)) = some (.bool true, [(!rightB c) = true]) := by cases pk <;> kernel_rfl
theorem p_nl (a : Option Addr) (n : Nat) : told (doCall E51 20 fid (args c a n cap sl sd by' sn st (pk.sv 1)) ⟨[], 2, []⟩ (f :: t :: List.replicate 16 Dec.l)) = some (.bool true, [(!rightB c) = false, c.Right, ((n : Int) != c.len) = true]) := by cases pk <;> kernel_rfl
end
open Dec in
theorem main (c : Cfg) (l : List Int) (off cap : Nat) (pk : Pk) (sl sd by' sn st : Int) (hr : c.Right) (hlen : (l.length : Int) = c.len) (hwf : WfW l) :
    CallC Try.prog fid (A c l off cap pk sl sd by' sn st) (plHp l off pk) (.bool true) (plHp l off pk) := by
  have o0 := newM_ok hlen
  by_cases w0 : sl < 0
  · exact CallC.of_call E52ok (p_g0 c l off cap pk sl sd by' sn st) (pcs_of ⟨⟨hr, hlen, rfl, rfl⟩, decide_eq_true w0, trivial⟩) rfl z2L
  have g0 : decide (sl < 0) = false := decide_eq_false w0
  by_cases w1 : sl ≥ c.s
  · exact CallC.of_call E52ok (p_g1 c l off cap pk sl sd by' sn st) (pcs_of ⟨⟨hr, hlen, rfl, rfl⟩, g0, decide_eq_true w1, trivial⟩) rfl z2L
  have g1 : decide (sl ≥ c.s) = false := decide_eq_false w1
  by_cases w2 : by' < 0
  · exact CallC.of_call E52ok (p_g2 c l off cap pk sl sd by' sn st) (pcs_of ⟨⟨hr, hlen, rfl, rfl⟩, g0, g1, decide_eq_true w2, trivial⟩) rfl z2L
  have g2 : decide (by' < 0) = false := decide_eq_false w2
  by_cases w3 : by' > 11
  · exact CallC.of_call E52ok (p_g3 c l off cap pk sl sd by' sn st) (pcs_of ⟨⟨hr, hlen, rfl, rfl⟩, g0, g1, g2, decide_eq_true w3, trivial⟩) rfl z2L
  have g3 : decide (by' > 11) = false := decide_eq_false w3
  by_cases w4 : sd < 0
  · exact CallC.of_call E52ok (p_g4 c l off cap pk sl sd by' sn st) (pcs_of ⟨⟨hr, hlen, rfl, rfl⟩, g0, g1, g2, g3, decide_eq_true w4, trivial⟩) rfl z2L
  have g4 : decide (sd < 0) = false := decide_eq_false w4
  by_cases w5 : sd > 1
  · exact CallC.of_call E52ok (p_g5 c l off cap pk sl sd by' sn st) (pcs_of ⟨⟨hr, hlen, rfl, rfl⟩, g0, g1, g2, g3, g4, decide_eq_true w5, trivial⟩) rfl z2L
  have g5 : decide (sd > 1) = false := decide_eq_false w5
  have hg : jGood (jj sl sd by' sn) (newM c l) := ⟨o0, hwf, ⟨show (0 : Int) ≤ 0 by decide, show (0 : Int) ≤ 18446744073709551615 by decide⟩, .inl rfl⟩
  have hgR := jrRun_good 20 0 _ _ hg
  have hg2 : jGood (jj sl sd by' sn) (RR c l sl sd by' sn).2.2 := ⟨hgR.1, hgR.2.1, ⟨show (0 : Int) ≤ 0 by decide, show (0 : Int) ≤ 18446744073709551615 by decide⟩, .inl rfl⟩
  have hgQ := jrRun_good 20 0 _ _ hg2
  have ho : oGood ⟨sl, sd, by', 0, false, false⟩ (QQ c l sl sd by' sn).2.2 := ⟨hgQ.1, hgQ.2.1, ⟨show (0 : Int) ≤ 0 by decide, show (0 : Int) ≤ 18446744073709551615 by decide⟩⟩
  have hgO := owRun_good 20 0 _ _ ho
  obtain ⟨e1, e2, e3, e4⟩ := jt_run (m := newM c l) (sl := sl) (sd := sd) (by' := by') (sn := sn) hr o0 hwf (by omega) (show sl < c.s by omega) (by omega) (by omega) (by omega) (by omega) (R := RR c l sl sd by' sn) rfl (Q := QQ c l sl sd by' sn) rfl (O := OO c l sl sd by' sn) rfl
  refine CallC.of_body (E := E52) (ds := []) (fn := fn) 139 (by kernel_rfl) (by kernel_rfl) (by kernel_rfl) (by kernel_rfl) ?_
  refine KC.of_exec (fr := start c l off cap pk sl sd by' sn st [Dec.l, f, f, f, f, f, f, Dec.l, f, f]) E52ok (p_in c l off cap pk sl sd by' sn st) (pcs_of ⟨⟨hr, hlen, rfl, rfl⟩, g0, g1, g2, g3, g4, g5, ⟨rfl, by decide, hg⟩, hgR.1, ⟨rfl, by decide, hg2⟩, by rw [e1]; exact bne_self_eq_false _, decide_eq_false (by omega), ⟨rfl, by decide, ho⟩, hgO.1, trivial⟩) (Nat.le_refl _) z2L ?_
  have hN : (RR c l sl sd by' sn).2.2.N = (RR c l sl sd by' sn).2.2.w.length := hgR.1.1
  have hM : (OO c l sl sd by' sn).2.2.N = (OO c l sl sd by' sn).2.2.w.length := hgO.1.1
  have hcl := Cfg.len_in hr
  have hNl : (RR c l sl sd by' sn).2.2.N = l.length := e3
  generalize (RR c l sl sd by' sn).2.1.r = x at *
  generalize (OO c l sl sd by' sn).1 = k at *
  generalize (RR c l sl sd by' sn).2.2.w = wa at *
  generalize (OO c l sl sd by' sn).2.2.w = wb at *
  generalize (RR c l sl sd by' sn).2.2.N = N at *
  generalize (OO c l sl sd by' sn).2.2.N = M at *
  refine KC.loop (m0 := 2) (ι := Nat) (fun i => fr l off pk x k N M wa wb (i : Int) []) (fun i => i ≤ N) (fun i => N - i) (fun ex fr => ex = .exit 0 ∧ fr = frX l off pk x k []) (fun i hi => ?_) ?_ 0 (Nat.zero_le _)
  · by_cases hlt : i < N
    · have nx : ∃ j : Nat, fr l off pk x k N M wa wb (w64 ((i : Int) + 1)) [] = fr l off pk x k N M wa wb (j : Int) [] ∧ j ≤ N ∧ N - j < N - i := ⟨i + 1, by rw [w64_succ i (by omega)], hlt, by omega⟩
      by_cases h2 : x = 2
      · obtain ⟨_, q2⟩ := e4 h2
        subst q2
        exact CodeC.of_run (fr := fr l off pk x k N M wb wb (i : Int) [t, t, f]) E52ok (l_2 l off pk x k N M wb wb i) (pcs_of ⟨decide_eq_true (by omega), beq_iff_eq.2 h2, by omega, by omega, by omega, by omega, by omega, by omega, bne_self_eq_false _, trivial⟩) (show 2 ≤ 4 by omega) z2L (.inl ⟨rfl, nx⟩)
      · exact CodeC.of_run (fr := fr l off pk x k N M wa wb (i : Int) [t, f, Dec.l]) E52ok (l_n l off pk x k N M wa wb i) (pcs_of ⟨decide_eq_true (by omega), beq_eq_false_iff_ne.2 h2, trivial⟩) (show 2 ≤ 4 by omega) z2L (.inl ⟨rfl, nx⟩)
    · exact CodeC.of_run (fr := fr l off pk x k N M wa wb (i : Int) [f]) E52ok (l_e l off pk x k N M wa wb i) (pcs_of ⟨decide_eq_false (by omega), trivial⟩) (show 2 ≤ 4 by omega) z2L (.inr ⟨by simp, rfl, rfl⟩)
  rintro ex fr ⟨rfl, rfl⟩
  by_cases h2 : x = 2
  · obtain ⟨q1, _⟩ := e4 h2
    subst q1
    refine KC.of_exec (fr := frX l off pk x _ [Dec.l, f]) E52ok (o_2 l off pk x _) (pcs_of ⟨by rw [h2]; rfl, trivial⟩) (Nat.le_refl _) z2L (KC.done ?_)
    cases pk with
    | nil => exact ⟨by simp, [.bool true], [], [0, 1], 2, by kernel_rfl, by simp, by kernel_rfl, rfl, z2L⟩
    | row of2 cap2 rows => exact ⟨by simp, [.bool true], [], [0, 1], 2, by kernel_rfl, by simp, by kernel_rfl, rfl, z2L⟩
  · refine KC.of_exec (fr := frX l off pk x k [Dec.l, t]) E52ok (o_n l off pk x k) (pcs_of ⟨bne_iff_ne.2 h2, trivial⟩) (Nat.le_refl _) z2L (KC.done ?_)
    cases pk with
    | nil => exact ⟨by simp, [.bool true], [], [0, 1], 2, by kernel_rfl, by simp, by kernel_rfl, rfl, z2L⟩
    | row of2 cap2 rows => exact ⟨by simp, [.bool true], [], [0, 1], 2, by kernel_rfl, by simp, by kernel_rfl, rfl, z2L⟩

theorem walk (c : Cfg) (v : Value) (l : List Int) (zs : List Int) (sv : Value) (rows : List (List Int)) (w : World) (hl : RowIn .u64 w v l) (hz : zs.length = 5) (_ : ∀ i, i < 5 → (Lit.int (([.i64, .i64, .i64, .u64, .i64] : List IntKind).getD i .i64) (zs.getD i 0)).wf = true) (hs : RowR pkK w sv rows) :
    Calls Try.prog fid #[c.v, v, .agg ⟨rowV [.i64, .i64, .i64, .u64, .i64] zs ++ [sv]⟩] w fun e w1 => e = .returned (.bool true) ∧ Below w.heap.size w w1 := by
  obtain ⟨sl, sd, by', sn, st, rfl⟩ : ∃ z0 z1 z2 z3 z4, zs = [z0, z1, z2, z3, z4] := by
    match zs, hz with
    | [z0, z1, z2, z3, z4], _ => exact ⟨z0, z1, z2, z3, z4, rfl⟩
  refine law_play2 (E' := E52) (n := 20) E51ok rfl hl hs (fun hr hlen off cap pk _ => ⟨_, main c l off cap pk sl sd by' sn st hr hlen (row_wf hl)⟩) (fun hr a m cap pk => ?_) (fun hr a m cap pk hlen => ?_)
  · exact ⟨_, _, p_nr c cap pk sl sd by' sn st a m, pcs_of ⟨by simp [rightB, hr], trivial⟩⟩
  · exact ⟨_, _, p_nl c cap pk sl sd by' sn st a m, pcs_of ⟨by simp [rightB, hr], hr, by simpa using hlen, trivial⟩⟩
end Go.Proofs.Ytmliekdbhefpkaa.JoinTwiceDone
