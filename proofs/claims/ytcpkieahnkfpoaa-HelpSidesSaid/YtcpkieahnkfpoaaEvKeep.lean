/- What the evaluator leaves as it was. -/
import Derived.Test.YtcpkieahnkfpoaaEvOp4
namespace Go.Proofs.Ytcpkieahnkfpoaa.Ev
open Go Go.RowKit

/-- Names rise; what was written to stays told; what was neither written to nor made is as it was. -/
structure Keep (hp hp1 : Hp) : Prop where
  le : hp.next ≤ hp1.next
  log : ∀ m, m < hp.next → m ∈ hp.log → m ∈ hp1.log
  same : ∀ n, n < hp.next → n ∉ hp1.log → hp1.get n = hp.get n
theorem Keep.refl (hp : Hp) : Keep hp hp := ⟨Nat.le_refl _, fun _ _ h => h, fun _ _ _ => rfl⟩
theorem Keep.trans {a b c : Hp} (h : Keep a b) (k : Keep b c) : Keep a c :=
  ⟨Nat.le_trans h.le k.le, fun m hm hl => k.log m (Nat.lt_of_lt_of_le hm h.le) (h.log m hm hl), fun n hn hl => by
    rw [k.same n (Nat.lt_of_lt_of_le hn h.le) hl]
    exact h.same n hn (fun hb => hl (k.log n (Nat.lt_of_lt_of_le hn h.le) hb))⟩
theorem Keep.add (hp : Hp) (b : Blk) : Keep hp (hp.add b) :=
  ⟨by simp [Hp.add], fun _ _ h => h, fun n hn _ => by rw [get_add, if_neg (by omega)]⟩
theorem Keep.set (hp : Hp) (n : Nat) (b : Blk) : Keep hp (hp.set n b) :=
  ⟨Nat.le_refl _, fun _ _ h => List.mem_cons_of_mem _ h, fun m _ hl => by
    rw [get_set, if_neg (fun (e : m = n) => hl (by subst e; exact List.mem_cons_self))]⟩

section
variable {E : Env} {tm : List Value} {hp hp1 : Hp} {v : Value} {pc : List Prop}
theorem aop_keep {op : Op} (h : aop E tm hp op = some (v, hp1, pc)) : Keep hp hp1 := by
  unfold aop at h
  cases op with
  | move x =>
    dsimp only at h
    split at h
    · simp only [Option.some.injEq, Prod.mk.injEq] at h; obtain ⟨_, rfl, _⟩ := h; exact Keep.refl _
    · cases h
  | assign x =>
    dsimp only at h
    split at h
    · simp only [Option.some.injEq, Prod.mk.injEq] at h; obtain ⟨_, rfl, _⟩ := h; exact Keep.refl _
    · cases h
  | alloc e =>
    dsimp only at h
    split at h
    · simp only [Option.some.injEq, Prod.mk.injEq] at h; obtain ⟨_, rfl, _⟩ := h; exact Keep.add _ _
    · cases h
  | box e x =>
    dsimp only at h
    split at h
    · simp only [Option.some.injEq, Prod.mk.injEq] at h; obtain ⟨_, rfl, _⟩ := h; exact Keep.add _ _
    · cases h
  | build t ps =>
    dsimp only at h
    split at h
    · split at h
      · simp only [Option.some.injEq, Prod.mk.injEq] at h; obtain ⟨_, rfl, _⟩ := h; exact Keep.refl _
      · cases h
    · cases h
  | buildSlice t len parts =>
    dsimp only at h
    split at h
    · split at h
      · rename_i z hz
        split at h
        · rename_i j hj
          split at h
          · rename_i ps hps
            cases hc : (Nat.beq z.length j.size && Nat.ble (len * j.size) 16777216)
            · simp only [hc, cond_false, reduceCtorEq] at h
            · simp only [hc, cond_true] at h
              split at h
              · simp only [Option.some.injEq, Prod.mk.injEq] at h; obtain ⟨_, rfl, _⟩ := h; exact Keep.add _ _
              · cases h
          · cases h
        · cases h
      · cases h
    · cases h
  | load t x =>
    dsimp only at h
    split at h
    · split at h
      · split at h
        · split at h
          · simp only [Option.some.injEq, Prod.mk.injEq] at h; obtain ⟨_, rfl, _⟩ := h; exact Keep.refl _
          · cases h
        · split at h
          · simp only [Option.some.injEq, Prod.mk.injEq] at h; obtain ⟨_, rfl, _⟩ := h; exact Keep.refl _
          · cases h
        · cases h
      · cases h
    · cases h
  | store t x y =>
    dsimp only at h
    split at h
    · rename_i vy _ _
      split at h
      · split at h
        · rename_i sz _
          cases hc : Nat.beq (cellsV vy).length sz
          · simp only [hc, cond_false, reduceCtorEq] at h
          · simp only [hc, cond_true] at h
            split at h
            · simp only [Option.some.injEq, Prod.mk.injEq] at h; obtain ⟨_, rfl, _⟩ := h; exact Keep.set _ _ _
            · cases h
        · cases h
      · cases h
    · cases h
  | makeSlice t x y =>
    cases x with
    | tmp l =>
      cases y with
      | tmp c =>
        dsimp only at h
        cases hc : Nat.beq l c
        · simp only [hc, cond_false, reduceCtorEq] at h
        · simp only [hc, cond_true] at h
          split at h
          · split at h
            · split at h
              · simp only [Option.some.injEq, Prod.mk.injEq] at h; obtain ⟨_, rfl, _⟩ := h; exact Keep.add _ _
              · cases h
            · cases h
          · cases h
      | _ => cases h
    | _ => cases h
  | nilCheck x =>
    dsimp only at h
    split at h
    · simp only [Option.some.injEq, Prod.mk.injEq] at h; obtain ⟨_, rfl, _⟩ := h; exact Keep.refl _
    · simp only [Option.some.injEq, Prod.mk.injEq] at h; obtain ⟨_, rfl, _⟩ := h; exact Keep.refl _
    · cases h
  | binOp op t x y yt =>
    dsimp only at h
    split at h
    · split at h
      · simp only [Option.some.injEq, Prod.mk.injEq] at h; obtain ⟨_, rfl, _⟩ := h; exact Keep.refl _
      · cases h
    · cases h
  | unOp op t x =>
    dsimp only at h
    split at h
    · simp only [Option.some.injEq, Prod.mk.injEq] at h; obtain ⟨_, rfl, _⟩ := h; exact Keep.refl _
    · simp only [Option.some.injEq, Prod.mk.injEq] at h; obtain ⟨_, rfl, _⟩ := h; exact Keep.refl _
    · cases h
  | convert s d x =>
    dsimp only at h
    split at h
    · simp only [Option.some.injEq, Prod.mk.injEq] at h; obtain ⟨_, rfl, _⟩ := h; exact Keep.refl _
    · cases h
  | makeFunc fn a b =>
    dsimp only at h
    split at h
    · simp only [Option.some.injEq, Prod.mk.injEq] at h; obtain ⟨_, rfl, _⟩ := h; exact Keep.refl _
    · cases h
  | fieldAddr s x f =>
    dsimp only at h
    split at h
    · simp only [Option.some.injEq, Prod.mk.injEq] at h; obtain ⟨_, rfl, _⟩ := h; exact Keep.refl _
    · cases h
  | field s x f =>
    dsimp only at h
    split at h
    · split at h
      · split at h
        · simp only [Option.some.injEq, Prod.mk.injEq] at h; obtain ⟨_, rfl, _⟩ := h; exact Keep.refl _
        · cases h
      · cases h
    · cases h
  | indexAddr t x i =>
    dsimp only at h
    split at h
    · split at h
      · simp only [Option.some.injEq, Prod.mk.injEq] at h; obtain ⟨_, rfl, _⟩ := h; exact Keep.refl _
      · cases h
    · split at h
      · split at h
        · simp only [Option.some.injEq, Prod.mk.injEq] at h; obtain ⟨_, rfl, _⟩ := h; exact Keep.refl _
        · cases h
      · cases h
    · cases h
  | index t x i =>
    dsimp only at h
    split at h
    · split at h
      · split at h
        · split at h
          · simp only [Option.some.injEq, Prod.mk.injEq] at h; obtain ⟨_, rfl, _⟩ := h; exact Keep.refl _
          · cases h
        · cases h
      · cases h
    · cases h
  | extract x i =>
    dsimp only at h
    split at h
    · split at h
      · simp only [Option.some.injEq, Prod.mk.injEq] at h; obtain ⟨_, rfl, _⟩ := h; exact Keep.refl _
      · cases h
    · cases h
  | _ => cases h
end

end Go.Proofs.Ytcpkieahnkfpoaa.Ev
