/- 'JoinBoth' holds: whatever the input, it returns true, and the input reads as it did. -/
import Derived.Test.YtmliekdbhefpkaaLwJoinBothW
import Derived.Test.YtmliekdbhefpkaaLwJoinBothK
import Derived.Test.YtmliekdbhefpkaaRows
import Derived.Test.YtmliekdbhefpkaaChecked
import Derived.ProofKit
import Derived.OpenShut
import Derived.ShutString
import Derived.ChangeOld
import Derived.SizedLaws
namespace Go.Proofs.Ytmliekdbhefpkaa.JoinBothDone
open Go Go.Proofs Go.Proofs.Ytmliekdbhefpkaa.Ev Go.Proofs.Ytmliekdbhefpkaa.Ct
open Go.ChangeShapes Go.WideShapes Go.ChangeAt Go.RowKit
open Go.ChangeMaps (open_string shut_string)

theorem own : ownKnob Try.prog.godebug = none := by kernel_rfl
theorem laidOut : laidOutB Try.prog = true := by kernel_rfl

set_option maxRecDepth 100000 in
theorem lifted (os : Os) (started : os.Started) (H : Type) (enc : TypeId × Value → H) :
    ReturnsInHanded {} Try.checked os 3 .any (Rows.joinBothSpec.pre6 enc Try.prog Try.f3 Rows.joinBothRow.domain false) (Rows.joinBothSpec.post enc Try.prog Try.f3 false true false false) := by
  refine returnsInHanded_of_change (C := Try.checked) own started (by kernel_rfl) Try.func3
    (ChangeSpec.witness6 (enc := enc) (C := Try.checked) false ⟨#[], #[.agg #[.int .i64 0, .int .i64 0, .int .i64 0, .int .i64 0, .int .u64 0], .agg #[.int .i64 0, .int .i64 0, .bool false, .bool false, .bool false, .int .i64 0, .int .i64 0], .agg #[.int .i64 0, .int .i64 0, .slice none 0 0]], []⟩ 8 (by kernel_rfl) (by kernel_rfl) (by kernel_rfl) (by kernel_rfl)) ?_
  intro W base args ds gs before hval0 hW hcnd _
  have hval : ∀ (j : Nat) t v, Try.f3.params[j]? = some t → args[j]? = some v → Value.okWide Try.prog W .any base t v := hval0
  have hW' := hW
  obtain ⟨p, q, hA0, hV, rfl, hfz, hnd⟩ := hW
  have hA : DataW.TrodAll enc Try.prog W 0 (fun _ => true) true Try.f3.params.toList args.toList ds p := hA0
  rw [Try.params3] at hA hval
  obtain ⟨v0, vs0, d0, ds0, p0, q0, hargs, rfl, rfl, h0, r0⟩ := trodAll_cons hA
  obtain ⟨v1, vs1, d1, ds1, p1, q1, rfl, rfl, rfl, h1, r1⟩ := trodAll_cons r0
  obtain ⟨v2, vs2, d2, ds2, p2, q2, rfl, rfl, rfl, h2, r2⟩ := trodAll_cons r1
  obtain ⟨rfl, rfl, rfl⟩ := trodAll_nil r2
  obtain rfl : args = #[v0, v1, v2] := by cases args; simp_all
  obtain ⟨rfl, rfl⟩ := trodVars_none hV
  have lt0 : ∀ x ∈ p0, x.block < W.heap.size := by obtain ⟨m, hm⟩ := h0; exact DataW.trod_lt m _ _ _ hm
  have lt1 : ∀ x ∈ p1, x.block < W.heap.size := by obtain ⟨m, hm⟩ := h1; exact DataW.trod_lt m _ _ _ hm
  have lt2 : ∀ x ∈ p2, x.block < W.heap.size := by obtain ⟨m, hm⟩ := h2; exact DataW.trod_lt m _ _ _ hm
  obtain ⟨c0, hc0⟩ : ∃ c : Cfg, v0 = c.v := by
    obtain ⟨zs, h1, h2, _⟩ := open_flat (ks := [.i64, .i64, .i64, .i64, .u64]) Try.underlying24 (by kernel_rfl) (fun i hi => by
      match i, hi with
      | 0, _ => exact ⟨_, rfl, rfl, by kernel_rfl, by kernel_rfl⟩
      | 1, _ => exact ⟨_, rfl, rfl, by kernel_rfl, by kernel_rfl⟩
      | 2, _ => exact ⟨_, rfl, rfl, by kernel_rfl, by kernel_rfl⟩
      | 3, _ => exact ⟨_, rfl, rfl, by kernel_rfl, by kernel_rfl⟩
      | 4, _ => exact ⟨_, rfl, rfl, by kernel_rfl, by kernel_rfl⟩) (hval 0 24 v0 rfl rfl) h0
    match zs, h1 with
    | [a, b, c, d, e], _ => exact ⟨⟨a, b, c, d, e⟩, h2⟩
  obtain ⟨p1s, hzv1⟩ : ∃ p : Ps, v1 = p.v := by
    obtain ⟨vs, hvl, hvv, hva⟩ := open_struct (shs := [.int .i64, .int .i64, .bool, .bool, .bool, .int .i64, .int .i64]) (ts := [3, 3, 4, 4, 4, 3, 3]) Try.underlying26 (by kernel_rfl) (show Try.prog.cellTypes Try.prog.depth 26 = some [3, 3, 4, 4, 4, 3, 3] by kernel_rfl) rfl (fun i hi => by
      match i, hi with
      | 0, _ => exact ⟨_, rfl, rfl, by kernel_rfl, rfl, Try.underlying3⟩
      | 1, _ => exact ⟨_, rfl, rfl, by kernel_rfl, rfl, Try.underlying3⟩
      | 2, _ => exact ⟨_, rfl, rfl, by kernel_rfl, rfl, Try.underlying4⟩
      | 3, _ => exact ⟨_, rfl, rfl, by kernel_rfl, rfl, Try.underlying4⟩
      | 4, _ => exact ⟨_, rfl, rfl, by kernel_rfl, rfl, Try.underlying4⟩
      | 5, _ => exact ⟨_, rfl, rfl, by kernel_rfl, rfl, Try.underlying3⟩
      | 6, _ => exact ⟨_, rfl, rfl, by kernel_rfl, rfl, Try.underlying3⟩) (hval 1 26 v1 rfl rfl) h1
    match vs, hvl with
    | [a0, a1, a2, a3, a4, a5, a6], _ =>
      obtain ⟨z0, e0, _⟩ := hva 0 (Nat.zero_lt_succ _)
      obtain ⟨z1, e1, _⟩ := hva 1 (Nat.le_of_ble_eq_true rfl)
      obtain ⟨z2, e2⟩ := hva 2 (Nat.le_of_ble_eq_true rfl)
      obtain ⟨z3, e3⟩ := hva 3 (Nat.le_of_ble_eq_true rfl)
      obtain ⟨z4, e4⟩ := hva 4 (Nat.le_of_ble_eq_true rfl)
      obtain ⟨z5, e5, _⟩ := hva 5 (Nat.le_of_ble_eq_true rfl)
      obtain ⟨z6, e6, _⟩ := hva 6 (Nat.le_of_ble_eq_true rfl)
      have e0 : a0 = .int .i64 z0 := e0
      have e1 : a1 = .int .i64 z1 := e1
      have e2 : a2 = .bool z2 := e2
      have e3 : a3 = .bool z3 := e3
      have e4 : a4 = .bool z4 := e4
      have e5 : a5 = .int .i64 z5 := e5
      have e6 : a6 = .int .i64 z6 := e6
      exact ⟨⟨z0, z1, z2, z3, z4, z5, z6⟩, by rw [hvv, e0, e1, e2, e3, e4, e5, e6]; rfl⟩
  obtain ⟨na2, nb2, sv2, L2, hzv2, hr2⟩ : ∃ a b sv L, v2 = .agg ⟨[.int .i64 a, .int .i64 b, sv]⟩ ∧ RowB W sv L := by
    obtain ⟨vs, hvl, hvv, hva⟩ := open_struct (shs := [.int .i64, .int .i64, .bools 4]) (ts := [3, 3, 27]) Try.underlying29 (by kernel_rfl) (show Try.prog.cellTypes Try.prog.depth 29 = some [3, 3, 27] by kernel_rfl) rfl (fun i hi => by
      match i, hi with
      | 0, _ => exact ⟨_, rfl, rfl, by kernel_rfl, rfl, Try.underlying3⟩
      | 1, _ => exact ⟨_, rfl, rfl, by kernel_rfl, rfl, Try.underlying3⟩
      | 2, _ => exact ⟨_, rfl, rfl, by kernel_rfl, rfl, Try.underlying27, Try.underlying4, by kernel_rfl⟩) (hval 2 29 v2 rfl rfl) h2
    match vs, hvl with
    | [a0, a1, a2], _ =>
      obtain ⟨z0, e0, _⟩ := hva 0 (Nat.zero_lt_succ _)
      obtain ⟨z1, e1, _⟩ := hva 1 (Nat.le_of_ble_eq_true rfl)
      obtain ⟨L, q2⟩ := hva 2 (Nat.le_of_ble_eq_true rfl)
      have e0 : a0 = .int .i64 z0 := e0
      have e1 : a1 = .int .i64 z1 := e1
      exact ⟨z0, z1, a2, L, by rw [hvv, e0, e1], q2⟩
  clear hA0 hval0
  subst hc0 hzv1 hzv2
  refine (walk c0 p1s na2 nb2 sv2 L2 W hr2).mono fun e W' ⟨he, bel⟩ => ?_
  subst he
  exact ⟨_, rfl, _, _, _, [], _, [], hW', trodAll_mk1 (shut_bool Try.underlying4 _), (trodAll_cons_mk (Below.trod laidOut (by kernel_rfl) (of_decide_eq_true (by kernel_rfl)) h0 bel lt0) (trodAll_cons_mk (Below.trod laidOut (by kernel_rfl) (of_decide_eq_true (by kernel_rfl)) h1 bel lt1) (trodAll_cons_mk (Below.trod laidOut (by kernel_rfl) (of_decide_eq_true (by kernel_rfl)) h2 bel lt2) trodAll_mk0))), rfl, bel.frame _, fun h => by cases h⟩

theorem over : Rows.joinBothRow.holds Try.pinned (OpenSpec.ofChange Rows.joinBothSpec) :=
  OpenClaim.holds_of_wide 3 Try.f3 rfl rfl rfl rfl rfl rfl rfl ⟨rfl, rfl, rfl, rfl, rfl⟩ rfl rfl rfl rfl rfl named Try.func3 closed inst wrapper (fun os started H enc _ => lifted os started H enc)

theorem proved : Rows.JoinBothSaid := over
end Go.Proofs.Ytmliekdbhefpkaa.JoinBothDone
