/- A read, on to the end. -/
import Derived.Test.YtmpidecpfcikoaaGreatCtRead
namespace Go.Proofs.YtmpidecpfcikoaaGreat.Ct
open Go Go.Proofs Go.Proofs.YtmpidecpfcikoaaGreat.Ev
open Go.RowKit

def rdRun : Nat → Nat → Rd → Mm → Nat × Rd × Mm
  | 0, i, o, m => (i, o, m)
  | n + 1, i, o, m => if o.dn = true then (i, o, m) else rdRun n (i + 1) (rdSt o m) (rdMe o m)
theorem rdRun_good : ∀ (n i : Nat) (o : Rd) (m : Mm), rdGood o m → rdGood (rdRun n i o m).2.1 (rdRun n i o m).2.2
  | 0, _, _, _, h => h
  | n + 1, i, o, m, h => by
    unfold rdRun
    split
    · exact h
    · exact rdRun_good n (i + 1) _ _ (rdStep_good h)
noncomputable abbrev reF : Func := Tryz.f12
abbrev reId : FuncId := 12
abbrev reL : List Nat := [1, 0, 1, 0, 0]
abbrev rdP (ns : List Nat) (o : Rd) : Prop := isHid rdF ns o.enc (bl rdF ns o.enc ns 0)
abbrev qAsk (o : Rd) : Prop := ([] : List Value) = [] ∧ isRd o.enc ∧ o.good
abbrev qGo (o : Rd) (m : Mm) : Prop := ([] : List Value) = [] ∧ isRd o.enc ∧ rdGood o m
/-- What is left, in the order of the names. -/
def rS (o : Rd) (m : Mm) : Hp := ⟨(0, .opt (hidN 13) (rdF 0) o.enc) :: (mBk m ++ optL rdF (hidN 13) o.enc (rng 15 12) 1), 27, []⟩
def reFr (o : Rd) (m : Mm) (N i : Int) (ds : List Dec) : Fr := mkFr 24 [(0, pt0), (1, ptN 13), (2, .int .i64 N), (8, .int .i64 N), (9, .int .i64 i)] (rS o m).blks 27 [0, 13, 14] ds
def reG (o : Rd) (m : Mm) (N : Int) : Fr := mkFr 24 [(0, pt0), (1, ptN 13), (2, .int .i64 N), (8, .int .i64 N), (9, .int .i64 0)] (hidHp rdF 13 o.enc m).blks 15 [] []
def reE (o : Rd) (m : Mm) (i : Int) (ds : List Dec) : Fr := mkFr 24 [(6, .int .i64 i)] (rS o m).blks 27 [0, 13, 14] ds
def reX (o : Rd) (m : Mm) (N : Int) (ds : List Dec) : Fr := mkFr 24 [(2, .int .i64 N)] (rS o m).blks 27 [0, 13, 14] ds
abbrev n15 : List Nat := [0, 1, 2, 3, 4, 5, 6, 7, 8, 9, 10, 11, 12, 13, 14]
/-- All names that stand. -/
abbrev n27 : List Nat := n15 ++ [15, 16, 17, 18, 19, 20, 21, 22, 23, 24, 25, 26]
abbrev n39 : List Nat := n15 ++ [27, 28, 29, 30, 31, 32, 33, 34, 35, 36, 37, 38]
open Dec in
section
variable (o : Rd) (m : Mm) (N i : Nat)
theorem re_in : execR Er1 12 .normal [.code (bd reF [])] n15 [0, 1, 2, 8, 9] 15 [] ⟨hidA 13 [.int .i64 N] ++ List.replicate 21 undef, hidHp rdF 13 o.enc m, [], []⟩ = some (.normal, [.code (.loop (bd reF reL)), .blk 0, .code (bd reF [1, 1])], reG o m N, []) := by kernel_rfl
theorem re_go : run Er1 12 (bd reF reL) n39 [0, 1, 2, 8, 9] 15 [] (reFr o m N (i : Int) [t, Dec.l, f]) = some (.normal, reFr (rdSt o m) (rdMe o m) N (w64 ((i : Int) + 1)) [], [decide ((i : Int) < (N : Int)) = true, rdP (hidN 13) o, qAsk o, o.dn = false, rdP (hidN 13) o, qGo o m]) := by kernel_rfl
theorem re_dn : run Er1 12 (bd reF reL) n27 [6] 15 [] (reFr o m N (i : Int) [t, Dec.l, t]) = some (.ret, reE o m (i : Int) [], [decide ((i : Int) < (N : Int)) = true, rdP (hidN 13) o, qAsk o, o.dn = true]) := by kernel_rfl
theorem re_end : run Er1 12 (bd reF reL) n27 [2] 15 [] (reFr o m N (i : Int) [f]) = some (.exit 0, reX o m N [], [decide ((i : Int) < (N : Int)) = false]) := by kernel_rfl
theorem re_out : execR Er1 12 (.exit 0) [.blk 0, .code (bd reF [1, 1])] n27 [6] 15 [] (reX o m N []) = some (.ret, [], reE o m N [], []) := by kernel_rfl
theorem re_ret (v : Int) : execR Er1 12 .ret [.blk 0, .code (bd reF [1, 1])] n27 [6] 15 [] (reE o m v []) = some (.ret, [], reE o m v [], []) := by kernel_rfl
end
open Dec in
theorem re_C {o o' : Rd} {m m' : Mm} {N n : Nat} (hN : N ≤ 1000) (hg : rdGood o m) (hR : rdRun N 0 o m = (n, o', m')) : CallC Tryz.prog reId (hidA 13 [.int .i64 N]) (hidHp rdF 13 o.enc m) (.int .i64 n) (hidOut rdF 13 o'.enc m') := by
  refine CallC.ren (hp1 := rS o' m') ?_ n27 rfl (by kernel_rfl) (by kernel_rfl) ⟨by kernel_rfl, by kernel_rfl, by kernel_rfl, by kernel_rfl, by kernel_rfl, by kernel_rfl, by kernel_rfl, by kernel_rfl, by kernel_rfl, by kernel_rfl, by kernel_rfl, by kernel_rfl, by kernel_rfl, by kernel_rfl, by kernel_rfl, trivial⟩ (by kernel_rfl) z15
  refine CallC.of_body (E := Er1) (ds := []) (fn := reF) 21 (by kernel_rfl) (by kernel_rfl) (by kernel_rfl) (by kernel_rfl) ?_
  refine KC.of_exec (fr := ⟨hidA 13 [.int .i64 N] ++ List.replicate 21 undef, hidHp rdF 13 o.enc m, [], []⟩) Er1ok (re_in o m N) (pcs_of trivial) (Nat.le_refl _) z15 ?_
  have ha : KC Er1 15 .normal [.code (.loop (bd reF reL)), .blk 0, .code (bd reF [1, 1])] (reFr o m N ((0 : Nat) : Int) []) (Ev.Ends Er1 reF 15 (.int .i64 n) (rS o' m')) := by
    refine KC.loop (m0 := 15) (ι := Nat × Rd × Mm) (fun x => reFr x.2.1 x.2.2 N (x.1 : Int) []) (fun x => x.1 ≤ N ∧ rdGood x.2.1 x.2.2 ∧ rdRun (N - x.1) x.1 x.2.1 x.2.2 = (n, o', m')) (fun x => N - x.1)
      (fun ex fr => (ex = .exit 0 ∧ n = N ∧ fr = reX o' m' N []) ∨ (ex = .ret ∧ fr = reE o' m' n [])) (fun x hx => ?_) ?_ (0, o, m) ⟨Nat.zero_le _, hg, hR⟩
    · obtain ⟨i, o, m⟩ := x
      obtain ⟨hi, ho, he⟩ := hx
      simp only at hi ho he ⊢
      have hl : 15 ≤ 27 := by omega
      by_cases hlt : i < N
      · have hd : decide ((i : Int) < (N : Int)) = true := decide_eq_true (by omega)
        obtain ⟨k, hk⟩ : ∃ k, N - i = k + 1 := ⟨N - i - 1, by omega⟩
        rw [hk] at he
        unfold rdRun at he
        by_cases hr : o.dn = true
        · rw [if_pos hr] at he
          simp only [Prod.mk.injEq] at he
          obtain ⟨rfl, rfl, rfl⟩ := he
          exact CodeC.of_run (fr := reFr o m N (i : Int) [t, Dec.l, t]) Er1ok (re_dn o m N i) (pcs_of ⟨hd, rfl, ⟨rfl, rfl, ho.2.2⟩, hr, trivial⟩) hl z15 (.inr ⟨by simp, .inr ⟨rfl, rfl⟩⟩)
        · rw [if_neg hr] at he
          exact CodeC.of_run (fr := reFr o m N (i : Int) [t, Dec.l, f]) Er1ok (re_go o m N i) (pcs_of ⟨hd, rfl, ⟨rfl, rfl, ho.2.2⟩, eq_false_of_ne_true hr, rfl, ⟨rfl, rfl, ho⟩, trivial⟩) hl z15 (.inl ⟨rfl, (i + 1, rdSt o m, rdMe o m), by rw [w64_succ i (by omega)], ⟨by simp only; omega, rdStep_good ho, by
            simp only
            rw [show N - (i + 1) = k by omega]
            exact he⟩, by simp only; omega⟩)
      · have e : i = N := by omega
        subst e
        rw [show i - i = 0 by omega] at he
        have he' : (i, o, m) = (n, o', m') := he
        simp only [Prod.mk.injEq] at he'
        obtain ⟨rfl, rfl, rfl⟩ := he'
        exact CodeC.of_run (fr := reFr o m i (i : Int) [f]) Er1ok (re_end o m i i) (pcs_of ⟨decide_eq_false (by omega), trivial⟩) hl z15 (.inr ⟨by simp, .inl ⟨rfl, rfl, rfl⟩⟩)
    · rintro ex fr (⟨rfl, rfl, rfl⟩ | ⟨rfl, rfl⟩)
      · exact KC.of_exec Er1ok (re_out o' m' n) (pcs_of trivial) (show 15 ≤ 27 by omega) z15 (KC.done ⟨by simp, [.int .i64 n], [], n27, 0, by kernel_rfl, by simp, by kernel_rfl, rfl, z15⟩)
      · exact KC.of_exec Er1ok (re_ret o' m' n) (pcs_of trivial) (show 15 ≤ 27 by omega) z15 (KC.done ⟨by simp, [.int .i64 n], [], n27, 0, by kernel_rfl, by simp, by kernel_rfl, rfl, z15⟩)
  exact KC.alias [0, 1, 2, 3, 4, 5, 6, 7, 8, 9, 10, 11, 12, 13, 14, 1, 2, 3, 4, 5, 6, 7, 8, 9, 10, 11, 12] ha (by kernel_rfl) (by kernel_rfl) (by kernel_rfl) ⟨by kernel_rfl, by kernel_rfl, by kernel_rfl, by kernel_rfl, by kernel_rfl, by kernel_rfl, by kernel_rfl, by kernel_rfl, by kernel_rfl, by kernel_rfl, by kernel_rfl, by kernel_rfl, by kernel_rfl, by kernel_rfl, by kernel_rfl, trivial⟩ (by kernel_rfl) z15
def numOf' : List Value → Nat
  | [.int .i64 (.ofNat n)] => n
  | _ => 0
abbrev gRe : List Value → Hp → Option (Value × Hp × List Prop) := gHid rdF 13 (fun x m rest => .int .i64 ((rdRun (numOf' rest) 0 (.dec x) m).1 : Int)) (fun x m rest => (rdRun (numOf' rest) 0 (.dec x) m).2.1.enc) (fun x m rest => (rdRun (numOf' rest) 0 (.dec x) m).2.2) (fun x m rest => rest = [.int .i64 (numOf' rest)] ∧ numOf' rest ≤ 1000 ∧ isRd x ∧ rdGood (.dec x) m)
theorem gRe_ok : ∀ args hp v hp' pc, gRe args hp = some (v, hp', pc) → ∀ ds, CallOk Tryz.prog reId args hp ⟨v, hp', ds, pc⟩ :=
  gHid_ok (enters (fn := Tryz.f12) (by kernel_rfl) (by kernel_rfl) rfl) (fun _ _ _ => rfl) fun x m rest h => by
    obtain ⟨h1, h2, h3, h4⟩ := h
    have hC := re_C (o := .dec x) (m := m) (n := (rdRun (numOf' rest) 0 (.dec x) m).1) (o' := (rdRun (numOf' rest) 0 (.dec x) m).2.1) (m' := (rdRun (numOf' rest) 0 (.dec x) m).2.2) h2 h4 rfl
    rw [← h1, ← h3] at hC
    exact hC
noncomputable def Er2 : Env := Er1.add reId gRe
theorem Er2ok : EnvOk Er2 := Er1ok.add gRe_ok
end Go.Proofs.YtmpidecpfcikoaaGreat.Ct
