/- 'WriteAlone' holds: whatever the input, it returns true, and the input reads as it did. -/
import Derived.Test.YtocfhiafegkfkaaGreatLwWriteAloneW
import Derived.Test.YtocfhiafegkfkaaGreatLwWriteAloneK
import Derived.Test.YtocfhiafegkfkaaGreatRows
import Derived.Test.YtocfhiafegkfkaaGreatChecked
import Derived.ProofKit
import Derived.OpenShut
import Derived.ShutString
import Derived.ChangeOld
import Derived.SizedLaws
namespace Go.Proofs.YtocfhiafegkfkaaGreat.WriteAloneDone
open Go Go.Proofs Go.Proofs.YtocfhiafegkfkaaGreat.Ev Go.Proofs.YtocfhiafegkfkaaGreat.Ct
open Go.ChangeShapes Go.WideShapes Go.ChangeAt Go.RowKit
open Go.ChangeMaps (open_string shut_string)

theorem own : ownKnob Tryz.prog.godebug = none := by kernel_rfl
theorem laidOut : laidOutB Tryz.prog = true := by kernel_rfl

set_option maxRecDepth 100000 in
theorem lifted (os : Os) (started : os.Started) (H : Type) (enc : TypeId × Value → H) :
    ReturnsInHanded {} Tryz.checked os 4 .any (Rows.writeAloneSpec.pre6 enc Tryz.prog Tryz.f4 Rows.writeAloneRow.domain false) (Rows.writeAloneSpec.post enc Tryz.prog Tryz.f4 false true false false) := by
  refine returnsInHanded_of_change (C := Tryz.checked) own started (by kernel_rfl) Tryz.func4
    (ChangeSpec.witness6 (enc := enc) (C := Tryz.checked) false ⟨#[], #[.agg #[.int .i64 0, .int .i64 0, .int .i64 0, .int .i64 0, .int .u64 0], .slice none 0 0, .agg #[.int .u64 0, .int .i64 0, .int .i64 0, .slice none 0 0]], []⟩ 8 (by kernel_rfl) (by kernel_rfl) (by kernel_rfl) (by kernel_rfl)) ?_
  intro W base args ds gs before hval0 hW hcnd _
  have hval : ∀ (j : Nat) t v, Tryz.f4.params[j]? = some t → args[j]? = some v → Value.okWide Tryz.prog W .any base t v := hval0
  have hW' := hW
  obtain ⟨p, q, hA0, hV, rfl, hfz, hnd⟩ := hW
  have hA : DataW.TrodAll enc Tryz.prog W 0 (fun _ => true) true Tryz.f4.params.toList args.toList ds p := hA0
  rw [Tryz.params4] at hA hval
  obtain ⟨v0, vs0, d0, ds0, p0, q0, hargs, rfl, rfl, h0, r0⟩ := trodAll_cons hA
  obtain ⟨v1, vs1, d1, ds1, p1, q1, rfl, rfl, rfl, h1, r1⟩ := trodAll_cons r0
  obtain ⟨v2, vs2, d2, ds2, p2, q2, rfl, rfl, rfl, h2, r2⟩ := trodAll_cons r1
  obtain ⟨rfl, rfl, rfl⟩ := trodAll_nil r2
  obtain rfl : args = #[v0, v1, v2] := by cases args; simp_all
  obtain ⟨rfl, rfl⟩ := trodVars_none hV
  have lt0 : ∀ x ∈ p0, x.block < W.heap.size := by obtain ⟨m, hm⟩ := h0; exact DataW.trod_lt m _ _ _ hm
  have lt1 : ∀ x ∈ p1, x.block < W.heap.size := by obtain ⟨m, hm⟩ := h1; exact DataW.trod_lt m _ _ _ hm
  have lt2 : ∀ x ∈ p2, x.block < W.heap.size := by obtain ⟨m, hm⟩ := h2; exact DataW.trod_lt m _ _ _ hm
  obtain ⟨c0, hc0⟩ : ∃ c : Cfg, v0 = c.v := by
    obtain ⟨zs, h1, h2, _⟩ := open_flat (ks := [.i64, .i64, .i64, .i64, .u64]) Tryz.underlying24 (by kernel_rfl) (fun i hi => by
      match i, hi with
      | 0, _ => exact ⟨_, rfl, rfl, by kernel_rfl, by kernel_rfl⟩
      | 1, _ => exact ⟨_, rfl, rfl, by kernel_rfl, by kernel_rfl⟩
      | 2, _ => exact ⟨_, rfl, rfl, by kernel_rfl, by kernel_rfl⟩
      | 3, _ => exact ⟨_, rfl, rfl, by kernel_rfl, by kernel_rfl⟩
      | 4, _ => exact ⟨_, rfl, rfl, by kernel_rfl, by kernel_rfl⟩) (hval 0 24 v0 rfl rfl) h0
    match zs, h1 with
    | [a, b, c, d, e], _ => exact ⟨⟨a, b, c, d, e⟩, h2⟩
  obtain ⟨l1, hl1⟩ := open_row Tryz.underlying43 Tryz.underlying22 (by kernel_rfl) (hval 1 43 v1 rfl rfl) h1
  obtain ⟨z2, sv2, r2, hz2, hzv2, hzw2, hr2⟩ := open_play (ks := [.u64, .i64, .i64]) (kk := [.i64, .i64, .i64, .u64]) (st := 44) (ts := [22, 3, 3, 44]) Tryz.underlying46 (by kernel_rfl) (fun i hi => by
      match i, hi with
      | 0, _ => exact ⟨_, rfl, rfl, by kernel_rfl, by kernel_rfl⟩
      | 1, _ => exact ⟨_, rfl, rfl, by kernel_rfl, by kernel_rfl⟩
      | 2, _ => exact ⟨_, rfl, rfl, by kernel_rfl, by kernel_rfl⟩) ⟨_, rfl, rfl, by kernel_rfl, rfl⟩ (show Tryz.prog.cellTypes Tryz.prog.depth 46 = some [22, 3, 3, 44] by kernel_rfl) rfl rfl Tryz.underlying44 Tryz.underlying120 (by kernel_rfl) (fun i hi => by
      match i, hi with
      | 0, _ => exact ⟨_, rfl, rfl, by kernel_rfl, by kernel_rfl⟩
      | 1, _ => exact ⟨_, rfl, rfl, by kernel_rfl, by kernel_rfl⟩
      | 2, _ => exact ⟨_, rfl, rfl, by kernel_rfl, by kernel_rfl⟩
      | 3, _ => exact ⟨_, rfl, rfl, by kernel_rfl, by kernel_rfl⟩) (hval 2 46 v2 rfl rfl) h2
  clear hA0 hval0
  subst hc0 hzv2
  refine (walk c0 v1 l1 z2 sv2 r2 W hl1 hz2 hzw2 hr2).mono fun e W' ⟨he, bel⟩ => ?_
  subst he
  exact ⟨_, rfl, _, _, _, [], _, [], hW', trodAll_mk1 (shut_bool Tryz.underlying4 _), (trodAll_cons_mk (Below.trod laidOut (by kernel_rfl) (of_decide_eq_true (by kernel_rfl)) h0 bel lt0) (trodAll_cons_mk (Below.trod laidOut (by kernel_rfl) (of_decide_eq_true (by kernel_rfl)) h1 bel lt1) (trodAll_cons_mk (Below.trod laidOut (by kernel_rfl) (of_decide_eq_true (by kernel_rfl)) h2 bel lt2) trodAll_mk0))), rfl, bel.frame _, fun h => by cases h⟩

theorem over : Rows.writeAloneRow.holds Tryz.pinned (OpenSpec.ofChange Rows.writeAloneSpec) :=
  OpenClaim.holds_of_wide 4 Tryz.f4 rfl rfl rfl rfl rfl rfl rfl ⟨rfl, rfl, rfl, rfl, rfl⟩ rfl rfl rfl rfl rfl named Tryz.func4 closed inst wrapper (fun os started H enc _ => lifted os started H enc)

theorem proved : Rows.WriteAloneSaid := over
end Go.Proofs.YtocfhiafegkfkaaGreat.WriteAloneDone
