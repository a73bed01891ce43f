/- What an example tells that goes well. -/
import Derived.Test.YtocfhiafegkfkaaGreatCtAt
namespace Go.Proofs.YtocfhiafegkfkaaGreat.Ct
open Go Go.Proofs Go.Proofs.YtocfhiafegkfkaaGreat.Ev

def gAlive (args : List Value) (hp : Hp) : Option (Value × Hp × List Prop) :=
  match args with
  | [] => some (.bool true, hp, [])
  | _ => none
theorem gAlive_ok {f : FuncId} (hent : Enters Tryz.prog f) (h : CallC Tryz.prog f [] ⟨[], 0, []⟩ (.bool true) ⟨[], 0, []⟩) : ∀ args hp v hp' pc, gAlive args hp = some (v, hp', pc) → ∀ ds, CallOk Tryz.prog f args hp ⟨v, hp', ds, pc⟩ := by
  intro args hp v hp' pc hg ds
  unfold gAlive at hg
  split at hg
  · simp only [Option.some.injEq, Prod.mk.injEq] at hg
    obtain ⟨rfl, rfl, rfl⟩ := hg
    exact CallC.pure hent (fun _ => h) rfl rfl hp ds
  · cases hg
noncomputable def E7 : Env := E6
theorem E7ok : EnvOk E7 := E6ok
end Go.Proofs.YtocfhiafegkfkaaGreat.Ct
