/- Which ends a status has at all, by its bits. -/
import Derived.Test.YtmliekdbhefpkaaCtBitsJ
namespace Go.Proofs.Ytmliekdbhefpkaa.Ct
open Go Go.Proofs Go.Proofs.Ytmliekdbhefpkaa.Ev
open Go.RowKit

/-- A bit of a side: of a slot, or of what is past. -/
def InS (s k : Int) : Prop := (12 * s ≤ k ∧ k < 12 * s + 12) ∨ k = 24 + s
theorem bit_out {x : Int} (h : x % 4096 ≠ 0) : x / 1 % 2 = 1 ∨ x / 2 % 2 = 1 ∨ x / 4 % 2 = 1 ∨ x / 8 % 2 = 1 ∨ x / 16 % 2 = 1 ∨ x / 32 % 2 = 1 ∨ x / 64 % 2 = 1 ∨ x / 128 % 2 = 1 ∨ x / 256 % 2 = 1 ∨ x / 512 % 2 = 1 ∨ x / 1024 % 2 = 1 ∨ x / 2048 % 2 = 1 := by
  by_cases c0 : x / 1 % 2 = 1
  · exact .inl c0
  have d0 : x % 2 = 0 := by omega
  by_cases c1 : x / 2 % 2 = 1
  · exact .inr (.inl c1)
  have d1 : x % 4 = 0 := by clear c0; omega
  by_cases c2 : x / 4 % 2 = 1
  · exact .inr (.inr (.inl c2))
  have d2 : x % 8 = 0 := by clear c0 c1 d0; omega
  by_cases c3 : x / 8 % 2 = 1
  · exact .inr (.inr (.inr (.inl c3)))
  have d3 : x % 16 = 0 := by clear c0 c1 c2 d0 d1; omega
  by_cases c4 : x / 16 % 2 = 1
  · exact .inr (.inr (.inr (.inr (.inl c4))))
  have d4 : x % 32 = 0 := by clear c0 c1 c2 c3 d0 d1 d2; omega
  by_cases c5 : x / 32 % 2 = 1
  · exact .inr (.inr (.inr (.inr (.inr (.inl c5)))))
  have d5 : x % 64 = 0 := by clear c0 c1 c2 c3 c4 d0 d1 d2 d3; omega
  by_cases c6 : x / 64 % 2 = 1
  · exact .inr (.inr (.inr (.inr (.inr (.inr (.inl c6))))))
  have d6 : x % 128 = 0 := by clear c0 c1 c2 c3 c4 c5 d0 d1 d2 d3 d4; omega
  by_cases c7 : x / 128 % 2 = 1
  · exact .inr (.inr (.inr (.inr (.inr (.inr (.inr (.inl c7)))))))
  have d7 : x % 256 = 0 := by clear c0 c1 c2 c3 c4 c5 c6 d0 d1 d2 d3 d4 d5; omega
  by_cases c8 : x / 256 % 2 = 1
  · exact .inr (.inr (.inr (.inr (.inr (.inr (.inr (.inr (.inl c8))))))))
  have d8 : x % 512 = 0 := by clear c0 c1 c2 c3 c4 c5 c6 c7 d0 d1 d2 d3 d4 d5 d6; omega
  by_cases c9 : x / 512 % 2 = 1
  · exact .inr (.inr (.inr (.inr (.inr (.inr (.inr (.inr (.inr (.inl c9)))))))))
  have d9 : x % 1024 = 0 := by clear c0 c1 c2 c3 c4 c5 c6 c7 c8 d0 d1 d2 d3 d4 d5 d6 d7; omega
  by_cases c10 : x / 1024 % 2 = 1
  · exact .inr (.inr (.inr (.inr (.inr (.inr (.inr (.inr (.inr (.inr (.inl c10))))))))))
  have d10 : x % 2048 = 0 := by clear c0 c1 c2 c3 c4 c5 c6 c7 c8 c9 d0 d1 d2 d3 d4 d5 d6 d7 d8; omega
  by_cases c11 : x / 2048 % 2 = 1
  · exact .inr (.inr (.inr (.inr (.inr (.inr (.inr (.inr (.inr (.inr (.inr (c11)))))))))))
  have d11 : x % 4096 = 0 := by clear c0 c1 c2 c3 c4 c5 c6 c7 c8 c9 c10 d0 d1 d2 d3 d4 d5 d6 d7 d8 d9; omega
  exact absurd d11 h
theorem nu_bit {q s : Int} (h0 : 0 ≤ s) (h1 : s ≤ 1) : nuI q (12 * s) 12 ≠ 0 ↔ ∃ b, 0 ≤ b ∧ b ≤ 11 ∧ bitI q (12 * s + b) = true := by
  have e : ∀ b, 0 ≤ b → bitI q (12 * s + b) = (q / pw (12 * s) / pw b % 2 == 1) := fun b hb => by
    unfold bitI
    have : pw (12 * s + b) = pw (12 * s) * pw b := by
      rw [pw_nat, pw_nat, pw_nat, show (12 * s + b).toNat = (12 * s).toNat + b.toNat by omega, Nat.pow_add]
      rfl
    have hp := pw_pos (12 * s)
    rw [this, Int.ediv_ediv_of_nonneg (by omega)]
  have en : nuI q (12 * s) 12 = q / pw (12 * s) % 4096 := rfl
  rw [en]
  generalize q / pw (12 * s) = x at e
  constructor
  · intro h
    rcases bit_out h with k | k | k | k | k | k | k | k | k | k | k | k
    · exact ⟨0, by omega, by omega, by rw [e 0 (by omega)]; exact beq_iff_eq.2 k⟩
    · exact ⟨1, by omega, by omega, by rw [e 1 (by omega)]; exact beq_iff_eq.2 k⟩
    · exact ⟨2, by omega, by omega, by rw [e 2 (by omega)]; exact beq_iff_eq.2 k⟩
    · exact ⟨3, by omega, by omega, by rw [e 3 (by omega)]; exact beq_iff_eq.2 k⟩
    · exact ⟨4, by omega, by omega, by rw [e 4 (by omega)]; exact beq_iff_eq.2 k⟩
    · exact ⟨5, by omega, by omega, by rw [e 5 (by omega)]; exact beq_iff_eq.2 k⟩
    · exact ⟨6, by omega, by omega, by rw [e 6 (by omega)]; exact beq_iff_eq.2 k⟩
    · exact ⟨7, by omega, by omega, by rw [e 7 (by omega)]; exact beq_iff_eq.2 k⟩
    · exact ⟨8, by omega, by omega, by rw [e 8 (by omega)]; exact beq_iff_eq.2 k⟩
    · exact ⟨9, by omega, by omega, by rw [e 9 (by omega)]; exact beq_iff_eq.2 k⟩
    · exact ⟨10, by omega, by omega, by rw [e 10 (by omega)]; exact beq_iff_eq.2 k⟩
    · exact ⟨11, by omega, by omega, by rw [e 11 (by omega)]; exact beq_iff_eq.2 k⟩
  · rintro ⟨b, b0, b1, hb⟩
    rw [e b b0, beq_iff_eq] at hb
    obtain rfl | rfl | rfl | rfl | rfl | rfl | rfl | rfl | rfl | rfl | rfl | rfl : b = 0 ∨ b = 1 ∨ b = 2 ∨ b = 3 ∨ b = 4 ∨ b = 5 ∨ b = 6 ∨ b = 7 ∨ b = 8 ∨ b = 9 ∨ b = 10 ∨ b = 11 := by omega
    · have hb : x / 1 % 2 = 1 := hb
      omega
    · have hb : x / 2 % 2 = 1 := hb
      omega
    · have hb : x / 4 % 2 = 1 := hb
      omega
    · have hb : x / 8 % 2 = 1 := hb
      omega
    · have hb : x / 16 % 2 = 1 := hb
      omega
    · have hb : x / 32 % 2 = 1 := hb
      omega
    · have hb : x / 64 % 2 = 1 := hb
      omega
    · have hb : x / 128 % 2 = 1 := hb
      omega
    · have hb : x / 256 % 2 = 1 := hb
      omega
    · have hb : x / 512 % 2 = 1 := hb
      omega
    · have hb : x / 1024 % 2 = 1 := hb
      omega
    · have hb : x / 2048 % 2 = 1 := hb
      omega
theorem any_bits {q s : Int} (h0 : 0 ≤ s) (h1 : s ≤ 1) : anyI q s = true ↔ ∃ k, InS s k ∧ bitI q k = true := by
  unfold anyI
  rw [if_neg (by omega), Bool.or_eq_true, decide_eq_true_eq, nu_bit h0 h1]
  constructor
  · rintro (⟨b, b0, b1, hb⟩ | h)
    · exact ⟨12 * s + b, .inl ⟨by omega, by omega⟩, hb⟩
    · exact ⟨24 + s, .inr rfl, h⟩
  · rintro ⟨k, hk | rfl, hb⟩
    · exact .inl ⟨k - 12 * s, by omega, by omega, by rw [show 12 * s + (k - 12 * s) = k by omega]; exact hb⟩
    · exact .inr hb
theorem with_bit {q s b k : Int} (hk : 0 ≤ k) (h : atI s b ≠ k) : bitI (withI q s b) k = bitI q k := by
  unfold withI
  split
  · rfl
  · exact bit_put_ne (by omega) hk h
theorem InS.nn {s k : Int} (h0 : 0 ≤ s) (h : InS s k) : 0 ≤ k := by
  rcases h with h | h <;> omega
/-- What is laid to one side is none of the other. -/
theorem any_other {q s b s' : Int} (h0 : 0 ≤ s) (h1 : s ≤ 1) (h0' : 0 ≤ s') (h1' : s' ≤ 1) (hne : s ≠ s') : anyI (withI q s b) s' = anyI q s' := by
  have key : ∀ k, InS s' k → bitI (withI q s b) k = bitI q k := fun k hk => with_bit (hk.nn h0') (by
    unfold atI
    rcases hk with hk | hk <;> split <;> omega)
  rw [Bool.eq_iff_iff, any_bits h0' h1', any_bits h0' h1']
  constructor
  · rintro ⟨k, hk, hb⟩
    exact ⟨k, hk, by rw [← key k hk]; exact hb⟩
  · rintro ⟨k, hk, hb⟩
    exact ⟨k, hk, by rw [key k hk]; exact hb⟩
theorem any_stays {q s s' b : Int} (h0 : 0 ≤ s) (h1 : s ≤ 1) (h : anyI q s = true) : anyI (withI q s' b) s = true := by
  rw [any_bits h0 h1] at h ⊢
  obtain ⟨k, hk, hb⟩ := h
  refine ⟨k, hk, ?_⟩
  by_cases e : atI s' b = k
  · unfold withI
    have := hk.nn h0
    rw [if_neg (by omega), e]
    exact bitI_put_true _ _
  · rw [with_bit (hk.nn h0) e]
    exact hb
theorem any_has {q s b : Int} (h0 : 0 ≤ s) (h1 : s ≤ 1) (h : hasI q s b = true) : anyI q s = true := by
  unfold hasI at h
  rw [Bool.and_eq_true, decide_eq_true_eq] at h
  rw [any_bits h0 h1]
  refine ⟨atI s b, .inl ?_, h.2⟩
  have := h.1
  unfold atI at this ⊢
  split at this
  · omega
  · rename_i hh
    rw [if_neg hh]
    omega
end Go.Proofs.Ytmliekdbhefpkaa.Ct
