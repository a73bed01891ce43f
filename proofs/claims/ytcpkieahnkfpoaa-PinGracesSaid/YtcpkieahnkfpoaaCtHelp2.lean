/- A status's state, as the document tells it. -/
import Derived.Test.YtcpkieahnkfpoaaCtHelp
namespace Go.Proofs.Ytcpkieahnkfpoaa.Ct
open Go Go.Proofs Go.Proofs.Ytcpkieahnkfpoaa.Ev
open Go.RowKit

theorem andM {x : Int} (h0 : 0 ≤ x) (h1 : x ≤ 18446744073709551615) (k : Nat) (hk : k ≤ 64) : (((BitVec.ofInt 64 x &&& BitVec.ofInt 64 (2 ^ k - 1 : Int)).toNat : Nat) : Int) = x % (2 ^ k : Int) := by
  have hp : (2 : Int) ^ k ≤ 2 ^ 64 := by
    have := Nat.pow_le_pow_right (n := 2) (by omega) hk
    exact_mod_cast this
  have hp0 : (0 : Int) < 2 ^ k := by
    have := Nat.pow_pos (n := k) (show 0 < 2 by omega)
    exact_mod_cast this
  rw [BitVec.toNat_and, BitVec.toNat_ofInt, BitVec.toNat_ofInt]
  have e1 : (x % ((2 ^ 64 : Nat) : Int)).toNat = x.toNat := by
    rw [Int.emod_eq_of_lt h0 (by omega)]
  have e2 : (((2 : Int) ^ k - 1) % ((2 ^ 64 : Nat) : Int)).toNat = 2 ^ k - 1 := by
    rw [Int.emod_eq_of_lt (by omega) (by omega)]
    have : ((2 : Int) ^ k - 1) = (((2 ^ k - 1 : Nat)) : Int) := by
      have := Nat.pow_pos (n := k) (show 0 < 2 by omega)
      rw [Int.natCast_sub (by omega)]
      simp
    rw [this]
    rfl
  rw [e1, e2, Nat.and_two_pow_sub_one_eq_mod]
  rw [Int.natCast_emod, Int.toNat_of_nonneg h0]
  simp
/-- The state in a status's word. -/
def stW (w : Int) : Int := w / 134217728 % 8
theorem stB_eq {w : Int} (h0 : 0 ≤ w) (h1 : w ≤ 18446744073709551615) : stB w = stW w := by
  unfold stB stW
  rw [Int.fdiv_eq_ediv_of_nonneg _ (by omega)]
  have := andM (x := w / 134217728) (by omega) (by omega) 3 (by omega)
  rw [show ((2 : Int) ^ 3 - 1) = 7 from rfl, show ((2 : Int) ^ 3) = 8 from rfl] at this
  rw [this, w_u64 (by omega) (by omega), w64_in (by omega) (by omega)]
open Dec in
theorem st01_path (w : Int) : callR E19 12 63 [.int .u64 w] ⟨[], 0, []⟩ (List.replicate 40 Dec.l) [] = some (.int .i64 (w64 (Int.tmod (u64 (Int.tdiv w 134217728)) 8)), ⟨[], 0, []⟩, [(134217728 : Int) ≠ 0, (8 : Int) ≠ 0]) := by kernel_rfl
theorem st01_C {w : Int} (h0 : 0 ≤ w) (h1 : w ≤ 18446744073709551615) : CallC Try.prog 63 [.int .u64 w] ⟨[], 0, []⟩ (.int .i64 (stW w)) ⟨[], 0, []⟩ := by
  have h := path E19ok 12 (st01_path w) (by simp) rfl
  rw [tdiv_nn h0, w_u64 (n := w / 134217728) (by omega) (by omega), Int.tmod_eq_emod_of_nonneg (by omega), w64_in (by omega) (by omega)] at h
  exact h
def gSt1 (args : List Value) (hp : Hp) : Option (Value × Hp × List Prop) :=
  match args with
  | [.int .u64 w] => some (.int .i64 (stW w), hp, [0 ≤ w ∧ w ≤ 18446744073709551615])
  | _ => none
theorem gSt1_ok : ∀ args hp v hp' pc, gSt1 args hp = some (v, hp', pc) → ∀ ds, CallOk Try.prog 63 args hp ⟨v, hp', ds, pc⟩ := by
  intro args hp v hp' pc hg ds
  unfold gSt1 at hg
  split at hg
  · rename_i w
    simp only [Option.some.injEq, Prod.mk.injEq] at hg
    obtain ⟨rfl, rfl, rfl⟩ := hg
    exact CallC.pure (enters (fn := Try.f63) (by kernel_rfl) (by kernel_rfl) rfl) (fun h => st01_C (hd1 h).1 (hd1 h).2) rfl rfl hp ds
  · cases hg
noncomputable def E25 : Env := E22.add 63 gSt1
theorem E25ok : EnvOk E25 := E22ok.add gSt1_ok
noncomputable def E26 : Env := E25.add 22 gOfW
theorem E26ok : EnvOk E26 := E25ok.add gOfW_ok
/-- The words are words. -/
def WfW (l : List Int) : Prop := ∀ n ∈ l, 0 ≤ n ∧ n ≤ 18446744073709551615
theorem row_wf {v : Value} {l : List Int} {w : World} (hl : RowIn .u64 w v l) : WfW l := by
  rcases hl with ⟨_, rfl⟩ | ⟨b, off, cap, _, _, h, _⟩
  · intro n hn; cases hn
  · exact fun n hn => bounds_u64 (h n hn)
theorem WfW.getW {l : List Int} (h : WfW l) (i : Int) : 0 ≤ getW l i ∧ getW l i ≤ 18446744073709551615 := by
  unfold Ct.getW
  split
  · rw [List.getD_eq_getElem?_getD]
    cases hg : l[i.toNat]? with
    | none => exact ⟨Int.le_refl _, by show (0 : Int) ≤ _; omega⟩
    | some n => exact h n (List.mem_of_getElem? hg)
  · omega
theorem WfW.setW {l : List Int} (h : WfW l) (i : Int) {v : Int} (h0 : 0 ≤ v) (h1 : v ≤ 18446744073709551615) : WfW (setW l i v) := by
  unfold Ct.setW
  split
  · intro n hn
    rcases List.mem_or_eq_of_mem_set hn with hn | rfl
    · exact h n hn
    · exact ⟨h0, h1⟩
  · exact h
end Go.Proofs.Ytcpkieahnkfpoaa.Ct
