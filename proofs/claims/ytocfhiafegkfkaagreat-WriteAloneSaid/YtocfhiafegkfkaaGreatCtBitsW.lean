/- Bits of a status: ends that are laid, moves of its state; no program in sight. -/
import Derived.Test.YtocfhiafegkfkaaGreatCtPlainA
namespace Go.Proofs.YtocfhiafegkfkaaGreat.Ct
open Go Go.Proofs Go.Proofs.YtocfhiafegkfkaaGreat.Ev
open Go.RowKit

theorem bitI_put_true (w n : Int) : bitI (putI w n true) n = true := by
  unfold putI
  by_cases h : bitI w n = true
  · rw [if_pos h, h]
  · rw [if_neg h, if_pos rfl]
    have hp := pw_pos n
    have e : (w + pw n) / pw n = w / pw n + 1 := by
      have := Int.add_mul_ediv_right w 1 (show pw n ≠ 0 by omega)
      rw [Int.one_mul] at this
      exact this
    unfold bitI at h ⊢
    rw [e]
    rw [beq_iff_eq] at h ⊢
    omega
theorem hasI_with {w sd by' : Int} (h0 : 0 ≤ sd) (h1 : sd ≤ 1) (h2 : 0 ≤ by') (h3 : by' ≤ 11) : hasI (withI w sd by') sd by' = true := by
  have ha : atI sd by' = 12 * sd + by' := by unfold atI; rw [if_neg (by omega)]
  unfold hasI withI
  rw [if_neg (by omega), bitI_put_true, Bool.and_true, decide_eq_true_eq]
  omega
theorem nuI_with {w : Int} (h0 : 0 ≤ w) (sd by' : Int) : nuI (withI w sd by') 27 3 = nuI w 27 3 := by
  have h := withI_hi h0 sd by'
  have e : ∀ x : Int, nuI x 27 3 = x / 16777216 / 8 % 8 := fun x => by
    show x / 134217728 % 8 = _
    omega
  rw [e, e, h]
theorem put_t (x n : Int) : putI x n true = if bitI x n = true then x else x + pw n := by
  unfold putI
  simp
theorem pw_split {n k : Int} (hn : 0 ≤ n) (h : n < k) : pw k = pw n * (2 * pw (k - n - 1)) := by
  rw [pw_nat k, pw_nat n, pw_nat (k - n - 1), show k.toNat = n.toNat + ((k - n - 1).toNat + 1) by omega, Nat.pow_add, Nat.pow_succ, Nat.mul_comm (2 ^ (k - n - 1).toNat) 2]
  rfl
theorem bit_put_ne {w n k : Int} (hn : 0 ≤ n) (hk : 0 ≤ k) (h : n ≠ k) : bitI (putI w n true) k = bitI w k := by
  rw [put_t]
  by_cases hb : bitI w n = true
  · rw [if_pos hb]
  · rw [if_neg hb]
    have hb' : w / pw n % 2 = 0 := by
      have h2 : ¬ (w / pw n % 2 = 1) := fun x => hb (beq_iff_eq.2 x)
      omega
    have pn := pw_pos n
    have pk := pw_pos k
    unfold bitI
    by_cases hlt : n < k
    · have e := pw_split hn hlt
      have d0 := pw_pos (k - n - 1)
      generalize pw (k - n - 1) = d at e d0
      rw [e, ← Int.ediv_ediv_of_nonneg (by omega), ← Int.ediv_ediv_of_nonneg (by omega), ← Int.ediv_ediv_of_nonneg (by omega), ← Int.ediv_ediv_of_nonneg (by omega)]
      have e2 : (w + pw n) / pw n = w / pw n + 1 := by
        have := Int.add_mul_ediv_right w 1 (c := pw n) (by omega)
        rwa [Int.one_mul] at this
      rw [e2, show (w / pw n + 1) / 2 = w / pw n / 2 by omega]
    · have e := pw_split (n := k) (k := n) hk (by omega)
      generalize pw (n - k - 1) = d at e
      rw [e, Int.add_mul_ediv_left w (2 * d) (by omega : pw k ≠ 0), show (w / pw k + 2 * d) % 2 = w / pw k % 2 by omega]
theorem put_comm {w n k : Int} (hn : 0 ≤ n) (hk : 0 ≤ k) (h : n ≠ k) : putI (putI w n true) k true = putI (putI w k true) n true := by
  have e1 := bit_put_ne (w := w) hn hk h
  have e2 := bit_put_ne (w := w) hk hn h.symm
  rw [put_t (putI w n true) k, put_t (putI w k true) n, e1, e2, put_t w n, put_t w k]
  split <;> split <;> omega
theorem with_comm (w s1 b1 s2 b2 : Int) : withI (withI w s1 b1) s2 b2 = withI (withI w s2 b2) s1 b1 := by
  unfold withI
  by_cases h1 : atI s1 b1 < 0
  · simp only [if_pos h1]
  · by_cases h2 : atI s2 b2 < 0
    · simp only [if_pos h2]
    · simp only [if_neg h1, if_neg h2]
      by_cases e : atI s1 b1 = atI s2 b2
      · rw [e]
      · exact put_comm (by omega) (by omega) e
theorem with_idem (w s b : Int) : withI (withI w s b) s b = withI w s b := by
  unfold withI
  by_cases h : atI s b < 0
  · simp only [if_pos h]
  · simp only [if_neg h]
    exact putI_same (bitI_put_true _ _)
theorem has_stays {w s b : Int} (h : hasI w s b = true) (s' b' : Int) : hasI (withI w s' b') s b = true := by
  unfold hasI at h ⊢
  rw [Bool.and_eq_true, decide_eq_true_eq] at h ⊢
  refine ⟨h.1, ?_⟩
  unfold withI
  split
  · exact h.2
  · by_cases e : atI s' b' = atI s b
    · rw [e]
      exact bitI_put_true _ _
    · rw [bit_put_ne (by omega) h.1 e]
      exact h.2


/-- A bit of a side: of a slot, or of what is past. -/
def InS (s k : Int) : Prop := (12 * s ≤ k ∧ k < 12 * s + 12) ∨ k = 24 + s
theorem bit_out {x : Int} (h : x % 4096 ≠ 0) : x / 1 % 2 = 1 ∨ x / 2 % 2 = 1 ∨ x / 4 % 2 = 1 ∨ x / 8 % 2 = 1 ∨ x / 16 % 2 = 1 ∨ x / 32 % 2 = 1 ∨ x / 64 % 2 = 1 ∨ x / 128 % 2 = 1 ∨ x / 256 % 2 = 1 ∨ x / 512 % 2 = 1 ∨ x / 1024 % 2 = 1 ∨ x / 2048 % 2 = 1 := by
  by_cases c0 : x / 1 % 2 = 1
  · exact .inl c0
  have d0 : x % 2 = 0 := by omega
  by_cases c1 : x / 2 % 2 = 1
  · exact .inr (.inl c1)
  have d1 : x % 4 = 0 := by clear c0; omega
  by_cases c2 : x / 4 % 2 = 1
  · exact .inr (.inr (.inl c2))
  have d2 : x % 8 = 0 := by clear c0 c1 d0; omega
  by_cases c3 : x / 8 % 2 = 1
  · exact .inr (.inr (.inr (.inl c3)))
  have d3 : x % 16 = 0 := by clear c0 c1 c2 d0 d1; omega
  by_cases c4 : x / 16 % 2 = 1
  · exact .inr (.inr (.inr (.inr (.inl c4))))
  have d4 : x % 32 = 0 := by clear c0 c1 c2 c3 d0 d1 d2; omega
  by_cases c5 : x / 32 % 2 = 1
  · exact .inr (.inr (.inr (.inr (.inr (.inl c5)))))
  have d5 : x % 64 = 0 := by clear c0 c1 c2 c3 c4 d0 d1 d2 d3; omega
  by_cases c6 : x / 64 % 2 = 1
  · exact .inr (.inr (.inr (.inr (.inr (.inr (.inl c6))))))
  have d6 : x % 128 = 0 := by clear c0 c1 c2 c3 c4 c5 d0 d1 d2 d3 d4; omega
  by_cases c7 : x / 128 % 2 = 1
  · exact .inr (.inr (.inr (.inr (.inr (.inr (.inr (.inl c7)))))))
  have d7 : x % 256 = 0 := by clear c0 c1 c2 c3 c4 c5 c6 d0 d1 d2 d3 d4 d5; omega
  by_cases c8 : x / 256 % 2 = 1
  · exact .inr (.inr (.inr (.inr (.inr (.inr (.inr (.inr (.inl c8))))))))
  have d8 : x % 512 = 0 := by clear c0 c1 c2 c3 c4 c5 c6 c7 d0 d1 d2 d3 d4 d5 d6; omega
  by_cases c9 : x / 512 % 2 = 1
  · exact .inr (.inr (.inr (.inr (.inr (.inr (.inr (.inr (.inr (.inl c9)))))))))
  have d9 : x % 1024 = 0 := by clear c0 c1 c2 c3 c4 c5 c6 c7 c8 d0 d1 d2 d3 d4 d5 d6 d7; omega
  by_cases c10 : x / 1024 % 2 = 1
  · exact .inr (.inr (.inr (.inr (.inr (.inr (.inr (.inr (.inr (.inr (.inl c10))))))))))
  have d10 : x % 2048 = 0 := by clear c0 c1 c2 c3 c4 c5 c6 c7 c8 c9 d0 d1 d2 d3 d4 d5 d6 d7 d8; omega
  by_cases c11 : x / 2048 % 2 = 1
  · exact .inr (.inr (.inr (.inr (.inr (.inr (.inr (.inr (.inr (.inr (.inr (c11)))))))))))
  have d11 : x % 4096 = 0 := by clear c0 c1 c2 c3 c4 c5 c6 c7 c8 c9 c10 d0 d1 d2 d3 d4 d5 d6 d7 d8 d9; omega
  exact absurd d11 h
theorem nu_bit {q s : Int} (h0 : 0 ≤ s) (h1 : s ≤ 1) : nuI q (12 * s) 12 ≠ 0 ↔ ∃ b, 0 ≤ b ∧ b ≤ 11 ∧ bitI q (12 * s + b) = true := by
  have e : ∀ b, 0 ≤ b → bitI q (12 * s + b) = (q / pw (12 * s) / pw b % 2 == 1) := fun b hb => by
    unfold bitI
    have : pw (12 * s + b) = pw (12 * s) * pw b := by
      rw [pw_nat, pw_nat, pw_nat, show (12 * s + b).toNat = (12 * s).toNat + b.toNat by omega, Nat.pow_add]
      rfl
    have hp := pw_pos (12 * s)
    rw [this, Int.ediv_ediv_of_nonneg (by omega)]
  have en : nuI q (12 * s) 12 = q / pw (12 * s) % 4096 := rfl
  rw [en]
  generalize q / pw (12 * s) = x at e
  constructor
  · intro h
    rcases bit_out h with k | k | k | k | k | k | k | k | k | k | k | k
    · exact ⟨0, by omega, by omega, by rw [e 0 (by omega)]; exact beq_iff_eq.2 k⟩
    · exact ⟨1, by omega, by omega, by rw [e 1 (by omega)]; exact beq_iff_eq.2 k⟩
    · exact ⟨2, by omega, by omega, by rw [e 2 (by omega)]; exact beq_iff_eq.2 k⟩
    · exact ⟨3, by omega, by omega, by rw [e 3 (by omega)]; exact beq_iff_eq.2 k⟩
    · exact ⟨4, by omega, by omega, by rw [e 4 (by omega)]; exact beq_iff_eq.2 k⟩
    · exact ⟨5, by omega, by omega, by rw [e 5 (by omega)]; exact beq_iff_eq.2 k⟩
    · exact ⟨6, by omega, by omega, by rw [e 6 (by omega)]; exact beq_iff_eq.2 k⟩
    · exact ⟨7, by omega, by omega, by rw [e 7 (by omega)]; exact beq_iff_eq.2 k⟩
    · exact ⟨8, by omega, by omega, by rw [e 8 (by omega)]; exact beq_iff_eq.2 k⟩
    · exact ⟨9, by omega, by omega, by rw [e 9 (by omega)]; exact beq_iff_eq.2 k⟩
    · exact ⟨10, by omega, by omega, by rw [e 10 (by omega)]; exact beq_iff_eq.2 k⟩
    · exact ⟨11, by omega, by omega, by rw [e 11 (by omega)]; exact beq_iff_eq.2 k⟩
  · rintro ⟨b, b0, b1, hb⟩
    rw [e b b0, beq_iff_eq] at hb
    obtain rfl | rfl | rfl | rfl | rfl | rfl | rfl | rfl | rfl | rfl | rfl | rfl : b = 0 ∨ b = 1 ∨ b = 2 ∨ b = 3 ∨ b = 4 ∨ b = 5 ∨ b = 6 ∨ b = 7 ∨ b = 8 ∨ b = 9 ∨ b = 10 ∨ b = 11 := by omega
    · have hb : x / 1 % 2 = 1 := hb
      omega
    · have hb : x / 2 % 2 = 1 := hb
      omega
    · have hb : x / 4 % 2 = 1 := hb
      omega
    · have hb : x / 8 % 2 = 1 := hb
      omega
    · have hb : x / 16 % 2 = 1 := hb
      omega
    · have hb : x / 32 % 2 = 1 := hb
      omega
    · have hb : x / 64 % 2 = 1 := hb
      omega
    · have hb : x / 128 % 2 = 1 := hb
      omega
    · have hb : x / 256 % 2 = 1 := hb
      omega
    · have hb : x / 512 % 2 = 1 := hb
      omega
    · have hb : x / 1024 % 2 = 1 := hb
      omega
    · have hb : x / 2048 % 2 = 1 := hb
      omega
theorem any_bits {q s : Int} (h0 : 0 ≤ s) (h1 : s ≤ 1) : anyI q s = true ↔ ∃ k, InS s k ∧ bitI q k = true := by
  unfold anyI
  rw [if_neg (by omega), Bool.or_eq_true, decide_eq_true_eq, nu_bit h0 h1]
  constructor
  · rintro (⟨b, b0, b1, hb⟩ | h)
    · exact ⟨12 * s + b, .inl ⟨by omega, by omega⟩, hb⟩
    · exact ⟨24 + s, .inr rfl, h⟩
  · rintro ⟨k, hk | rfl, hb⟩
    · exact .inl ⟨k - 12 * s, by omega, by omega, by rw [show 12 * s + (k - 12 * s) = k by omega]; exact hb⟩
    · exact .inr hb
theorem with_bit {q s b k : Int} (hk : 0 ≤ k) (h : atI s b ≠ k) : bitI (withI q s b) k = bitI q k := by
  unfold withI
  split
  · rfl
  · exact bit_put_ne (by omega) hk h
theorem InS.nn {s k : Int} (h0 : 0 ≤ s) (h : InS s k) : 0 ≤ k := by
  rcases h with h | h <;> omega
/-- What is laid to one side is none of the other. -/
theorem any_other {q s b s' : Int} (h0 : 0 ≤ s) (h1 : s ≤ 1) (h0' : 0 ≤ s') (h1' : s' ≤ 1) (hne : s ≠ s') : anyI (withI q s b) s' = anyI q s' := by
  have key : ∀ k, InS s' k → bitI (withI q s b) k = bitI q k := fun k hk => with_bit (hk.nn h0') (by
    unfold atI
    rcases hk with hk | hk <;> split <;> omega)
  rw [Bool.eq_iff_iff, any_bits h0' h1', any_bits h0' h1']
  constructor
  · rintro ⟨k, hk, hb⟩
    exact ⟨k, hk, by rw [← key k hk]; exact hb⟩
  · rintro ⟨k, hk, hb⟩
    exact ⟨k, hk, by rw [key k hk]; exact hb⟩
theorem any_stays {q s s' b : Int} (h0 : 0 ≤ s) (h1 : s ≤ 1) (h : anyI q s = true) : anyI (withI q s' b) s = true := by
  rw [any_bits h0 h1] at h ⊢
  obtain ⟨k, hk, hb⟩ := h
  refine ⟨k, hk, ?_⟩
  by_cases e : atI s' b = k
  · unfold withI
    have := hk.nn h0
    rw [if_neg (by omega), e]
    exact bitI_put_true _ _
  · rw [with_bit (hk.nn h0) e]
    exact hb
theorem any_has {q s b : Int} (h0 : 0 ≤ s) (h1 : s ≤ 1) (h : hasI q s b = true) : anyI q s = true := by
  unfold hasI at h
  rw [Bool.and_eq_true, decide_eq_true_eq] at h
  rw [any_bits h0 h1]
  refine ⟨atI s b, .inl ?_, h.2⟩
  have := h.1
  unfold atI at this ⊢
  split at this
  · omega
  · rename_i hh
    rw [if_neg hh]
    omega
/-! Moves -/
theorem pw26 : pw 26 = 67108864 := rfl
theorem mv_div {w st : Int} {b : Bool} : mvI w st b / 1073741824 = w / 1073741824 ∧ mvI w st b % 67108864 = w % 67108864 ∧ mvI w st b / 134217728 % 8 = st % 8 ∧ mvI w st b / 67108864 % 2 = (if b then 1 else 0) := by
  unfold mvI
  cases b
  · simp only [Bool.false_eq_true, if_false]
    omega
  · simp only [if_true]
    omega
theorem mv_mv (w a a' : Int) (b b' : Bool) : mvI (mvI w a b) a' b' = mvI w a' b' := by
  obtain ⟨h1, h2, _, _⟩ := mv_div (w := w) (st := a) (b := b)
  show mvI w a b / 1073741824 * 1073741824 + a' % 8 * 134217728 + (if b' then 67108864 else 0) + mvI w a b % 67108864 = _
  rw [h1, h2]
  rfl
theorem mv_nu (w st : Int) (b : Bool) : nuI (mvI w st b) 27 3 = st % 8 := (mv_div (w := w) (st := st) (b := b)).2.2.1
theorem mv_bit (w st : Int) (b : Bool) : bitI (mvI w st b) 26 = b := by
  have := (mv_div (w := w) (st := st) (b := b)).2.2.2
  show (mvI w st b / 67108864 % 2 == 1) = b
  rw [this]
  cases b <;> rfl
theorem mv_gen (w st : Int) (b : Bool) : nuI (mvI w st b) 30 32 = nuI w 30 32 := by
  show mvI w st b / 1073741824 % _ = w / 1073741824 % _
  rw [(mv_div (w := w) (st := st) (b := b)).1]
theorem mv_self {w st : Int} {b : Bool} (h1 : nuI w 27 3 = st) (h2 : bitI w 26 = b) : mvI w st b = w := by
  subst h1; subst h2
  unfold mvI
  have e1 : nuI w 27 3 = w / 134217728 % 8 := rfl
  have e2 : bitI w 26 = (w / 67108864 % 2 == 1) := rfl
  rw [e1, e2]
  by_cases h : w / 67108864 % 2 = 1
  · rw [h]
    simp only [beq_self_eq_true, if_true]
    omega
  · rw [beq_eq_false_iff_ne.2 h]
    simp only [Bool.false_eq_true, if_false]
    omega
/-- A bit below the state's is not moved. -/
theorem mv_low {w st n : Int} {b : Bool} (h0 : 0 ≤ n) (h1 : n < 26) : bitI (mvI w st b) n = bitI w n := by
  have e := pw_split (n := n) (k := 26) h0 h1
  have pn := pw_pos n
  have pd := pw_pos (26 - n - 1)
  rw [pw26] at e
  generalize pw (26 - n - 1) = d at e pd
  have key : ∀ x : Int, bitI x n = (x % 67108864 / pw n % 2 == 1) := fun x => by
    have hx : x = x % 67108864 + pw n * (2 * d * (x / 67108864)) := by
      have := Int.emod_add_mul_ediv x 67108864
      rw [← Int.mul_assoc, ← e]
      omega
    have hq : x / pw n = x % 67108864 / pw n + 2 * d * (x / 67108864) := by
      conv => lhs; rw [hx]
      exact Int.add_mul_ediv_left _ _ (by omega)
    unfold bitI
    rw [hq, Int.mul_assoc]
    congr 1
    omega
  rw [key, key, (mv_div (w := w) (st := st) (b := b)).2.1]
theorem mv_has {w st : Int} {b : Bool} (sd x : Int) : hasI (mvI w st b) sd x = hasI w sd x := by
  unfold hasI
  by_cases h : 0 ≤ atI sd x
  · rw [mv_low h (by have := (atI_le sd x).2; omega)]
  · rw [decide_eq_false h, Bool.false_and, Bool.false_and]
theorem mv_put {w st n : Int} {b : Bool} (h0 : 0 ≤ n) (h1 : n < 26) : putI (mvI w st b) n true = mvI (putI w n true) st b := by
  rw [put_t, put_t, mv_low h0 h1]
  by_cases hb : bitI w n = true
  · rw [if_pos hb, if_pos hb]
  · rw [if_neg hb, if_neg hb]
    have e := pw_split (n := n) (k := 26) h0 h1
    have pn := pw_pos n
    have pd := pw_pos (26 - n - 1)
    rw [pw26] at e
    generalize pw (26 - n - 1) = d at e pd
    have hz : w / pw n % 2 = 0 := by
      have h2 : ¬ (w / pw n % 2 = 1) := fun x => hb (beq_iff_eq.2 x)
      omega
    have hd : (w + pw n) / 67108864 = w / 67108864 := by
      rw [e, ← Int.ediv_ediv_of_nonneg (by omega), ← Int.ediv_ediv_of_nonneg (by omega), ← Int.ediv_ediv_of_nonneg (by omega), ← Int.ediv_ediv_of_nonneg (by omega)]
      have e2 : (w + pw n) / pw n = w / pw n + 1 := by
        have := Int.add_mul_ediv_right w 1 (c := pw n) (by omega)
        rwa [Int.one_mul] at this
      rw [e2, show (w / pw n + 1) / 2 = w / pw n / 2 by omega]
    generalize pw n = p at *
    unfold mvI
    cases b
    · simp only [Bool.false_eq_true, if_false]
      omega
    · simp only [if_true]
      omega
theorem mv_with (w st : Int) (b : Bool) (sd x : Int) : withI (mvI w st b) sd x = mvI (withI w sd x) st b := by
  unfold withI
  by_cases h : atI sd x < 0
  · rw [if_pos h, if_pos h]
  · rw [if_neg h, if_neg h, mv_put (by omega) (by have := (atI_le sd x).2; omega)]
theorem mv_any {w st : Int} {b : Bool} {s : Int} (h0 : 0 ≤ s) (h1 : s ≤ 1) : anyI (mvI w st b) s = anyI w s := by
  have key : ∀ k, InS s k → bitI (mvI w st b) k = bitI w k := fun k hk => mv_low (hk.nn h0) (by rcases hk with hk | hk <;> omega)
  rw [Bool.eq_iff_iff, any_bits h0 h1, any_bits h0 h1]
  constructor
  · rintro ⟨k, hk, hb⟩
    exact ⟨k, hk, by rw [← key k hk]; exact hb⟩
  · rintro ⟨k, hk, hb⟩
    exact ⟨k, hk, by rw [key k hk]; exact hb⟩
theorem with_busy (w sd x : Int) : bitI (withI w sd x) 26 = bitI w 26 := with_bit (by omega) (by have := (atI_le sd x).2; omega)
theorem with_gen {w : Int} (h0 : 0 ≤ w) (sd x : Int) : nuI (withI w sd x) 30 32 = nuI w 30 32 := by
  have h := withI_hi h0 sd x
  show withI w sd x / 1073741824 % _ = w / 1073741824 % _
  congr 1
  omega
end Go.Proofs.YtocfhiafegkfkaaGreat.Ct
