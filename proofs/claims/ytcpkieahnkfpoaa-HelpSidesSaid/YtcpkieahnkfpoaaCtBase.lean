/- The program as the evaluator sees it: no statement is proved here. -/
import Derived.Test.YtcpkieahnkfpoaaEvStack
import Derived.Test.YtcpkieahnkfpoaaProg
namespace Go.Proofs.Ytcpkieahnkfpoaa.Ct
open Go Go.Proofs Go.Proofs.Ytcpkieahnkfpoaa.Ev

def eq0 (t : TypeId) : Option (List CK) :=
  bif Nat.beq t 24 then some [.i .i64, .i .i64, .i .i64, .i .i64, .i .u64] else
  bif Nat.beq t 39 then some [.i .i64, .i .i64] else
  bif Nat.beq t 29 then some [.i .i64, .i .i64] else
  bif Nat.beq t 140 then some [.i .i64, .i .i64, .i .i64] else
  bif Nat.beq t 126 then some [.i .i64, .i .i64, .i .i64, .i .u64, .i .u64, .b] else
  bif Nat.beq t 31 then some [.i .i64, .i .i64, .i .i64, .i .u64, .i .u64, .b] else none
noncomputable def E0 : Env := { P := Try.prog, orc := fun _ _ _ => none, eqs := eq0 }

theorem eq0_ok : ∀ t ks, E0.eqs t = some ks → flat E0 8 t = some (true, ks) ∧ E0.P.eqGuardType E0.P.depth t = false := by
  intro t ks h
  have h' : eq0 t = some ks := h
  unfold eq0 at h'
  cases h1 : Nat.beq t 24
  · cases h2 : Nat.beq t 39
    · cases h3 : Nat.beq t 29
      · cases h4 : Nat.beq t 140
        · cases h5 : Nat.beq t 126
          · cases h6 : Nat.beq t 31
            · simp only [h1, h2, h3, h4, h5, h6, cond_false, reduceCtorEq] at h'
            · obtain rfl := beq_nat h6
              simp only [h1, h2, h3, h4, h5, h6, cond_false, cond_true, Option.some.injEq] at h'
              subst h'
              exact ⟨by kernel_rfl, by kernel_rfl⟩
          · obtain rfl := beq_nat h5
            simp only [h1, h2, h3, h4, h5, cond_false, cond_true, Option.some.injEq] at h'
            subst h'
            exact ⟨by kernel_rfl, by kernel_rfl⟩
        · obtain rfl := beq_nat h4
          simp only [h1, h2, h3, h4, cond_false, cond_true, Option.some.injEq] at h'
          subst h'
          exact ⟨by kernel_rfl, by kernel_rfl⟩
      · obtain rfl := beq_nat h3
        simp only [h1, h2, h3, cond_false, cond_true, Option.some.injEq] at h'
        subst h'
        exact ⟨by kernel_rfl, by kernel_rfl⟩
    · obtain rfl := beq_nat h2
      simp only [h1, h2, cond_false, cond_true, Option.some.injEq] at h'
      subst h'
      exact ⟨by kernel_rfl, by kernel_rfl⟩
  · obtain rfl := beq_nat h1
    simp only [h1, cond_true, Option.some.injEq] at h'
    subst h'
    exact ⟨by kernel_rfl, by kernel_rfl⟩
theorem E0ok : EnvOk E0 := ⟨by kernel_rfl, eqsOk_of eq0_ok, fun _ _ _ _ _ _ h => by cases h⟩
end Go.Proofs.Ytcpkieahnkfpoaa.Ct
