/- 'OpenOnly' holds: whatever the input, it returns true, and the input reads as it did. -/
import Derived.Test.YtjkohcdgjlaobaaLwOpenOnlyW
import Derived.Test.YtjkohcdgjlaobaaLwOpenOnlyK
import Derived.Test.YtjkohcdgjlaobaaRows
import Derived.Test.YtjkohcdgjlaobaaChecked
import Derived.ProofKit
import Derived.OpenShut
import Derived.ShutString
import Derived.ChangeOld
import Derived.SizedLaws
namespace Go.Proofs.Ytjkohcdgjlaobaa.OpenOnlyDone
open Go Go.Proofs Go.Proofs.Ytjkohcdgjlaobaa.Ev Go.Proofs.Ytjkohcdgjlaobaa.Ct
open Go.ChangeShapes Go.WideShapes Go.ChangeAt Go.RowKit
open Go.ChangeMaps (open_string shut_string)

theorem own : ownKnob Try.prog.godebug = none := by kernel_rfl
theorem laidOut : laidOutB Try.prog = true := by kernel_rfl

set_option maxRecDepth 100000 in
theorem lifted (os : Os) (started : os.Started) (H : Type) (enc : TypeId × Value → H) :
    ReturnsInHanded {} Try.checked os 9 .any (Rows.openOnlySpec.pre6 enc Try.prog Try.f9 Rows.openOnlyRow.domain false) (Rows.openOnlySpec.post enc Try.prog Try.f9 false true false false) := by
  refine returnsInHanded_of_change (C := Try.checked) own started (by kernel_rfl) Try.func9
    (ChangeSpec.witness6 (enc := enc) (C := Try.checked) false ⟨#[], #[.agg #[.int .i64 0, .int .i64 0, .int .i64 0, .int .i64 0, .int .u64 0], .slice none 0 0], []⟩ 8 (by kernel_rfl) (by kernel_rfl) (by kernel_rfl) (by kernel_rfl)) ?_
  intro W base args ds gs before hval0 hW hcnd _
  have hval : ∀ (j : Nat) t v, Try.f9.params[j]? = some t → args[j]? = some v → Value.okWide Try.prog W .any base t v := hval0
  have hW' := hW
  obtain ⟨p, q, hA0, hV, rfl, hfz, hnd⟩ := hW
  have hA : DataW.TrodAll enc Try.prog W 0 (fun _ => true) true Try.f9.params.toList args.toList ds p := hA0
  rw [Try.params9] at hA hval
  obtain ⟨v0, vs0, d0, ds0, p0, q0, hargs, rfl, rfl, h0, r0⟩ := trodAll_cons hA
  obtain ⟨v1, vs1, d1, ds1, p1, q1, rfl, rfl, rfl, h1, r1⟩ := trodAll_cons r0
  obtain ⟨rfl, rfl, rfl⟩ := trodAll_nil r1
  obtain rfl : args = #[v0, v1] := by cases args; simp_all
  obtain ⟨rfl, rfl⟩ := trodVars_none hV
  have lt0 : ∀ x ∈ p0, x.block < W.heap.size := by obtain ⟨m, hm⟩ := h0; exact DataW.trod_lt m _ _ _ hm
  have lt1 : ∀ x ∈ p1, x.block < W.heap.size := by obtain ⟨m, hm⟩ := h1; exact DataW.trod_lt m _ _ _ hm
  obtain ⟨c0, hc0⟩ : ∃ c : Cfg, v0 = c.v := by
    obtain ⟨zs, h1, h2, _⟩ := open_flat (ks := [.i64, .i64, .i64, .i64, .u64]) Try.underlying24 (by kernel_rfl) (fun i hi => by
      match i, hi with
      | 0, _ => exact ⟨_, rfl, rfl, by kernel_rfl, by kernel_rfl⟩
      | 1, _ => exact ⟨_, rfl, rfl, by kernel_rfl, by kernel_rfl⟩
      | 2, _ => exact ⟨_, rfl, rfl, by kernel_rfl, by kernel_rfl⟩
      | 3, _ => exact ⟨_, rfl, rfl, by kernel_rfl, by kernel_rfl⟩
      | 4, _ => exact ⟨_, rfl, rfl, by kernel_rfl, by kernel_rfl⟩) (hval 0 24 v0 rfl rfl) h0
    match zs, h1 with
    | [a, b, c, d, e], _ => exact ⟨⟨a, b, c, d, e⟩, h2⟩
  obtain ⟨l1, hl1⟩ := open_row Try.underlying25 Try.underlying22 (by kernel_rfl) (hval 1 25 v1 rfl rfl) h1
  clear hA0 hval0
  subst hc0
  refine (walk c0 v1 l1 W hl1).mono fun e W' ⟨he, bel⟩ => ?_
  subst he
  exact ⟨_, rfl, _, _, _, [], _, [], hW', trodAll_mk1 (shut_bool Try.underlying4 _), (trodAll_cons_mk (Below.trod laidOut (by kernel_rfl) (of_decide_eq_true (by kernel_rfl)) h0 bel lt0) (trodAll_cons_mk (Below.trod laidOut (by kernel_rfl) (of_decide_eq_true (by kernel_rfl)) h1 bel lt1) trodAll_mk0)), rfl, bel.frame _, fun h => by cases h⟩

theorem over : Rows.openOnlyRow.holds Try.pinned (OpenSpec.ofChange Rows.openOnlySpec) :=
  OpenClaim.holds_of_wide 9 Try.f9 rfl rfl rfl rfl rfl rfl rfl ⟨rfl, rfl, rfl, rfl, rfl⟩ rfl rfl rfl rfl rfl named Try.func9 closed inst wrapper (fun os started H enc _ => lifted os started H enc)

theorem proved : Rows.OpenOnlySaid := over
end Go.Proofs.Ytjkohcdgjlaobaa.OpenOnlyDone
