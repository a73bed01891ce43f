/- Structs are compared cell by cell: how a type is added of which that is told. -/
import Derived.Test.YtocfhiafegkfkaaGreatCtStat
namespace Go.Proofs.YtocfhiafegkfkaaGreat.Ct
open Go Go.Proofs Go.Proofs.YtocfhiafegkfkaaGreat.Ev
open Go.RowKit

/-- One more type is compared cell by cell. -/
def _root_.Go.Proofs.YtocfhiafegkfkaaGreat.Ev.Env.addEq (E : Env) (t : TypeId) (ks : List CK) : Env := ⟨E.P, E.orc, fun t' => bif Nat.beq t' t then some ks else E.eqs t'⟩
theorem _root_.Go.Proofs.YtocfhiafegkfkaaGreat.Ev.EnvOk.addEq {E : Env} (hE : EnvOk E) {t : TypeId} {ks : List CK} (h : ∀ xs ys bs, eqC ks xs ys = some bs → ∀ (x y : Operand) (w : World),
  (eqGuard .eql t x y (.agg ⟨xs⟩) (.agg ⟨ys⟩)).run E.P w = .ok () w ∧ (eqGuard .neq t x y (.agg ⟨xs⟩) (.agg ⟨ys⟩)).run E.P w = .ok () w ∧
  (binOp .eql t (.agg ⟨xs⟩) (.agg ⟨ys⟩)).run E.P w = .ok (.bool (andL bs)) w ∧ (binOp .neq t (.agg ⟨xs⟩) (.agg ⟨ys⟩)).run E.P w = .ok (.bool (!(andL bs))) w) : EnvOk (E.addEq t ks) :=
  ⟨hE.mixed, fun t' ks' ht => by
    simp only [Env.addEq] at ht
    cases hn : Nat.beq t' t
    · simp only [hn, cond_false] at ht
      exact hE.eqs t' ks' ht
    · simp only [hn, cond_true, Option.some.injEq] at ht
      obtain rfl := beq_nat hn
      subst ht
      exact h, hE.orc⟩
theorem eq_struct {t : TypeId} {ks : List CK} {E : Env} (h : flat ⟨E.P, E.orc, fun t' => bif Nat.beq t' t then some ks else none⟩ 8 t = some (true, ks)) (hg : E.P.eqGuardType E.P.depth t = false) : ∀ xs ys bs, eqC ks xs ys = some bs → ∀ (x y : Operand) (w : World),
  (eqGuard .eql t x y (.agg ⟨xs⟩) (.agg ⟨ys⟩)).run E.P w = .ok () w ∧ (eqGuard .neq t x y (.agg ⟨xs⟩) (.agg ⟨ys⟩)).run E.P w = .ok () w ∧
  (binOp .eql t (.agg ⟨xs⟩) (.agg ⟨ys⟩)).run E.P w = .ok (.bool (andL bs)) w ∧ (binOp .neq t (.agg ⟨xs⟩) (.agg ⟨ys⟩)).run E.P w = .ok (.bool (!(andL bs))) w :=
  eqsOk_of (E := ⟨E.P, E.orc, fun t' => bif Nat.beq t' t then some ks else none⟩) (fun t' ks' ht => by
    simp only at ht
    cases hn : Nat.beq t' t
    · simp [hn] at ht
    · simp only [hn, cond_true, Option.some.injEq] at ht
      obtain rfl := beq_nat hn
      subst ht
      exact ⟨h, hg⟩) t ks (by simp)
end Go.Proofs.YtocfhiafegkfkaaGreat.Ct
