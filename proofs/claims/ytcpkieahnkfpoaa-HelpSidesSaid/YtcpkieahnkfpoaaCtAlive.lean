/- The store's own example goes well. -/
import Derived.Test.YtcpkieahnkfpoaaCtAt
namespace Go.Proofs.Ytcpkieahnkfpoaa.Ct
open Go Go.Proofs Go.Proofs.Ytcpkieahnkfpoaa.Ev

theorem alive06 : CallC Try.prog 23 [] ⟨[], 0, []⟩ (.bool true) ⟨[], 0, []⟩ :=
  path E6ok 20 (ds := List.replicate 200 .l) (pc := [(0 : Int) ≤ (8 : Int), (64 : Int) ≤ (281474976710656 : Int), (8 : Int) ≤ (9223372036854775807 : Int), (0 : Int) ≤ (8 : Int), (64 : Int) ≤ (281474976710656 : Int), (8 : Int) ≤ (9223372036854775807 : Int), (8 : Nat) ≤ (8 : Nat), (8 : Nat) ≤ (8 : Nat), (0 : Nat) = (0 : Nat), (0 : Int) ≤ (0 : Int), (0 : Int) ≤ (281474976710656 : Int), (0 : Int) ≤ (9223372036854775807 : Int), (0 : Int) ≤ (1 : Int), (1 : Int) < (8 : Int), (1 : Nat) < (8 : Nat), (0 : Int) ≤ (1 : Int), (1 : Int) < (8 : Int), (1 : Nat) < (8 : Nat), (0 : Int) ≤ (1 : Int), (1 : Int) < (8 : Int), (1 : Nat) < (8 : Nat), (0 : Int) ≤ (1 : Int), (1 : Int) < (8 : Int), (1 : Nat) < (8 : Nat), (0 : Int) ≤ (1 : Int), (1 : Int) < (8 : Int), (1 : Nat) < (8 : Nat), (0 : Int) ≤ (1 : Int), (1 : Int) < (8 : Int), (1 : Nat) < (8 : Nat), (0 : Int) ≤ (1 : Int), (1 : Int) < (8 : Int), (1 : Nat) < (8 : Nat), (0 : Int) ≤ (1 : Int), (1 : Int) < (8 : Int), (1 : Nat) < (8 : Nat), (0 : Int) ≤ (7 : Int), (7 : Int) < (8 : Int), (7 : Nat) < (8 : Nat), (0 : Int) ≤ (7 : Int), (7 : Int) < (8 : Int), (7 : Nat) < (8 : Nat), (0 : Int) ≤ (8 : Int), (64 : Int) ≤ (281474976710656 : Int), (8 : Int) ≤ (9223372036854775807 : Int), (8 : Nat) ≤ (8 : Nat), (8 : Nat) ≤ (8 : Nat), (0 : Nat) = (0 : Nat), (0 : Int) ≤ (1 : Int), (1 : Int) < (8 : Int), (1 : Nat) < (8 : Nat), (0 : Int) ≤ (7 : Int), (7 : Int) < (8 : Int), (7 : Nat) < (8 : Nat)]) (by kernel_rfl) (by simp) rfl

def gAlive (args : List Value) (hp : Hp) : Option (Value × Hp × List Prop) :=
  match args with
  | [] => some (.bool true, hp, [])
  | _ => none
theorem gAlive_ok {f : FuncId} (hent : Enters Try.prog f) (h : CallC Try.prog f [] ⟨[], 0, []⟩ (.bool true) ⟨[], 0, []⟩) : ∀ args hp v hp' pc, gAlive args hp = some (v, hp', pc) → ∀ ds, CallOk Try.prog f args hp ⟨v, hp', ds, pc⟩ := by
  intro args hp v hp' pc hg ds
  unfold gAlive at hg
  split at hg
  · simp only [Option.some.injEq, Prod.mk.injEq] at hg
    obtain ⟨rfl, rfl, rfl⟩ := hg
    exact CallC.pure hent (fun _ => h) rfl rfl hp ds
  · cases hg
noncomputable def E7 : Env := E6.add 23 gAlive
theorem E7ok : EnvOk E7 := E6ok.add (gAlive_ok (enters (fn := Try.f23) (by kernel_rfl) (by kernel_rfl) rfl) alive06)
end Go.Proofs.Ytcpkieahnkfpoaa.Ct
