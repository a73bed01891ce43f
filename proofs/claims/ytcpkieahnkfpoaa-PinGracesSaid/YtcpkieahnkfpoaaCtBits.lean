/- Words whose bits are told by quotients and rests. -/
import Derived.Test.YtcpkieahnkfpoaaCtGraced
namespace Go.Proofs.Ytcpkieahnkfpoaa.Ct
open Go Go.Proofs Go.Proofs.Ytcpkieahnkfpoaa.Ev
open Go.RowKit

/-- What is pending, of a word of the Tally, as the program takes it. -/
def pendB (w : Int) : Int := w64 (w64 (u64 ((BitVec.ofInt 64 w &&& BitVec.ofInt 64 15).toNat : Int)) - 1)
theorem and15 {w : Int} (h0 : 0 ≤ w) (h1 : w ≤ 18446744073709551615) : (((BitVec.ofInt 64 w &&& BitVec.ofInt 64 15).toNat : Nat) : Int) = w % 16 := by
  rw [BitVec.toNat_and, BitVec.toNat_ofInt, BitVec.toNat_ofInt]
  have e1 : (w % ((2 ^ 64 : Nat) : Int)).toNat = w.toNat := by
    rw [Int.emod_eq_of_lt h0 (by omega)]
  have e2 : ((15 : Int) % ((2 ^ 64 : Nat) : Int)).toNat = 2 ^ 4 - 1 := by decide
  rw [e1, e2, Nat.and_two_pow_sub_one_eq_mod]
  omega
theorem pendB_eq {w : Int} (h0 : 0 ≤ w) (h1 : w ≤ 18446744073709551615) : pendB w = w % 16 - 1 := by
  unfold pendB
  rw [and15 h0 h1, w_u64 (by omega) (by omega), w64_in (n := w % 16) (by omega) (by omega), w64_in (by omega) (by omega)]
theorem tdiv_nn {w d : Int} (h0 : 0 ≤ w) : w.tdiv d = w / d := Int.tdiv_eq_ediv_of_nonneg h0
end Go.Proofs.Ytcpkieahnkfpoaa.Ct
