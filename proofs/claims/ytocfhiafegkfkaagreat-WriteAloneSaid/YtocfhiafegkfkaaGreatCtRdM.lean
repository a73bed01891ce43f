/- What reads and writes have in common. -/
import Derived.Test.YtocfhiafegkfkaaGreatCtReadA
namespace Go.Proofs.YtocfhiafegkfkaaGreat.Ct
open Go Go.Proofs Go.Proofs.YtocfhiafegkfkaaGreat.Ev
open Go.RowKit

abbrev T0 (g : Prop) : Prop := ([] : List Value) = [] ∧ g
theorem rdEnV_nm (k : Nat) : ∀ n ∈ nm (rdEnV k), n < 13 := by
  unfold rdEnV
  split <;> simp [nm]
theorem rdJnV_nm (k : Nat) : ∀ n ∈ nm (rdJnV k), n < 13 := by
  unfold rdJnV
  split <;> simp [nm]
theorem rdOnV_nm (k : Nat) : ∀ n ∈ nm (rdOnV k), n < 13 := by
  unfold rdOnV
  split <;> simp [nm]
theorem z15 {tl : List Nat} : ∀ k, k < 15 → (0 :: 1 :: 2 :: 3 :: 4 :: 5 :: 6 :: 7 :: 8 :: 9 :: 10 :: 11 :: 12 :: 13 :: 14 :: tl : List Nat).getD k 0 = k := fun k hk => by
  match k, hk with
  | 0, _ | 1, _ | 2, _ | 3, _ | 4, _ | 5, _ | 6, _ | 7, _ | 8, _ | 9, _ | 10, _ | 11, _ | 12, _ | 13, _ | 14, _ => rfl
theorem wd0 : Wd 0 := ⟨Int.le_refl _, by decide⟩
theorem oth_len (w k s : Int) : (othL w k s).length ≤ 12 := but_up_len w k s 12
theorem getD_nil {w k s : Int} (h : othL w k s ≠ []) : 0 < (othL w k s).length := List.length_pos_iff.2 h
/-- A world's numbers, as they are handed on. -/
def cfgV : Value → Cfg
  | .agg ⟨[.int .i64 a, .int .i64 b, .int .i64 c, .int .i64 d, .int .u64 e]⟩ => ⟨a, b, c, d, e⟩
  | _ => ⟨0, 0, 0, 0, 0⟩
def intV : Value → Int
  | .int _ x => x
  | _ => 0
end Go.Proofs.YtocfhiafegkfkaaGreat.Ct
