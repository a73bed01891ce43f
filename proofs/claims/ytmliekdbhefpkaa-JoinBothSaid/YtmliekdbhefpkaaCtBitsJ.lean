/- Ends that are laid: in whatever order, and again, they are the same. -/
import Derived.Test.YtmliekdbhefpkaaCtPlain2
namespace Go.Proofs.Ytmliekdbhefpkaa.Ct
open Go Go.Proofs Go.Proofs.Ytmliekdbhefpkaa.Ev
open Go.RowKit

theorem put_t (x n : Int) : putI x n true = if bitI x n = true then x else x + pw n := by
  unfold putI
  simp
theorem pw_split {n k : Int} (hn : 0 ≤ n) (h : n < k) : pw k = pw n * (2 * pw (k - n - 1)) := by
  rw [pw_nat k, pw_nat n, pw_nat (k - n - 1), show k.toNat = n.toNat + ((k - n - 1).toNat + 1) by omega, Nat.pow_add, Nat.pow_succ, Nat.mul_comm (2 ^ (k - n - 1).toNat) 2]
  rfl
theorem bit_put_ne {w n k : Int} (hn : 0 ≤ n) (hk : 0 ≤ k) (h : n ≠ k) : bitI (putI w n true) k = bitI w k := by
  rw [put_t]
  by_cases hb : bitI w n = true
  · rw [if_pos hb]
  · rw [if_neg hb]
    have hb' : w / pw n % 2 = 0 := by
      have h2 : ¬ (w / pw n % 2 = 1) := fun x => hb (beq_iff_eq.2 x)
      omega
    have pn := pw_pos n
    have pk := pw_pos k
    unfold bitI
    by_cases hlt : n < k
    · have e := pw_split hn hlt
      have d0 := pw_pos (k - n - 1)
      generalize pw (k - n - 1) = d at e d0
      rw [e, ← Int.ediv_ediv_of_nonneg (by omega), ← Int.ediv_ediv_of_nonneg (by omega), ← Int.ediv_ediv_of_nonneg (by omega), ← Int.ediv_ediv_of_nonneg (by omega)]
      have e2 : (w + pw n) / pw n = w / pw n + 1 := by
        have := Int.add_mul_ediv_right w 1 (c := pw n) (by omega)
        rwa [Int.one_mul] at this
      rw [e2, show (w / pw n + 1) / 2 = w / pw n / 2 by omega]
    · have e := pw_split (n := k) (k := n) hk (by omega)
      generalize pw (n - k - 1) = d at e
      rw [e, Int.add_mul_ediv_left w (2 * d) (by omega : pw k ≠ 0), show (w / pw k + 2 * d) % 2 = w / pw k % 2 by omega]
theorem put_comm {w n k : Int} (hn : 0 ≤ n) (hk : 0 ≤ k) (h : n ≠ k) : putI (putI w n true) k true = putI (putI w k true) n true := by
  have e1 := bit_put_ne (w := w) hn hk h
  have e2 := bit_put_ne (w := w) hk hn h.symm
  rw [put_t (putI w n true) k, put_t (putI w k true) n, e1, e2, put_t w n, put_t w k]
  split <;> split <;> omega
theorem with_comm (w s1 b1 s2 b2 : Int) : withI (withI w s1 b1) s2 b2 = withI (withI w s2 b2) s1 b1 := by
  unfold withI
  by_cases h1 : atI s1 b1 < 0
  · simp only [if_pos h1]
  · by_cases h2 : atI s2 b2 < 0
    · simp only [if_pos h2]
    · simp only [if_neg h1, if_neg h2]
      by_cases e : atI s1 b1 = atI s2 b2
      · rw [e]
      · exact put_comm (by omega) (by omega) e
theorem with_idem (w s b : Int) : withI (withI w s b) s b = withI w s b := by
  unfold withI
  by_cases h : atI s b < 0
  · simp only [if_pos h]
  · simp only [if_neg h]
    exact putI_same (bitI_put_true _ _)
theorem has_stays {w s b : Int} (h : hasI w s b = true) (s' b' : Int) : hasI (withI w s' b') s b = true := by
  unfold hasI at h ⊢
  rw [Bool.and_eq_true, decide_eq_true_eq] at h ⊢
  refine ⟨h.1, ?_⟩
  unfold withI
  split
  · exact h.2
  · by_cases e : atI s' b' = atI s b
    · rw [e]
      exact bitI_put_true _ _
    · rw [bit_put_ne (by omega) h.1 e]
      exact h.2
end Go.Proofs.Ytmliekdbhefpkaa.Ct
