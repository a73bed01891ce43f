/- 'GateEnters' holds: whatever the input, it returns true, and the input reads as it did. -/
import Derived.Test.YtmliekdbhefpkaaLwGateEntersW
import Derived.Test.YtmliekdbhefpkaaLwGateEntersK
import Derived.Test.YtmliekdbhefpkaaRows
import Derived.Test.YtmliekdbhefpkaaChecked
import Derived.ProofKit
import Derived.OpenShut
import Derived.ShutString
import Derived.ChangeOld
import Derived.SizedLaws
namespace Go.Proofs.Ytmliekdbhefpkaa.GateEntersDone
open Go Go.Proofs Go.Proofs.Ytmliekdbhefpkaa.Ev Go.Proofs.Ytmliekdbhefpkaa.Ct
open Go.ChangeShapes Go.WideShapes Go.ChangeAt Go.RowKit
open Go.ChangeMaps (open_string shut_string)

theorem own : ownKnob Try.prog.godebug = none := by kernel_rfl
theorem laidOut : laidOutB Try.prog = true := by kernel_rfl

set_option maxRecDepth 100000 in
theorem lifted (os : Os) (started : os.Started) (H : Type) (enc : TypeId × Value → H) :
    ReturnsInHanded {} Try.checked os 14 .any (Rows.gateEntersSpec.pre6 enc Try.prog Try.f14 Rows.gateEntersRow.domain false) (Rows.gateEntersSpec.post enc Try.prog Try.f14 false true false false) := by
  refine returnsInHanded_of_change_sized (C := Try.checked) own started (by kernel_rfl) Try.func14
    (ChangeSpec.witness6 (enc := enc) (C := Try.checked) false ⟨#[], #[.agg #[.int .i64 0, .int .i64 0, .int .i64 0, .int .i64 0, .int .u64 0], .slice none 0 0, .agg #[.int .u64 0, .slice none 0 0, .int .i64 0, .slice none 0 0]], []⟩ 8 (by kernel_rfl) (by kernel_rfl) (by kernel_rfl) (by kernel_rfl)) ?_
  intro W base args ds gs before hval0 hW hcnd hsz0 _
  have hval : ∀ (j : Nat) t v, Try.f14.params[j]? = some t → args[j]? = some v → Value.okWide Try.prog W .any base t v := hval0
  have hW' := hW
  obtain ⟨p, q, hA0, hV, rfl, hfz, hnd⟩ := hW
  have hA : DataW.TrodAll enc Try.prog W 0 (fun _ => true) true Try.f14.params.toList args.toList ds p := hA0
  rw [Try.params14] at hA hval
  rw [Try.params14] at hsz0
  obtain ⟨v0, vs0, d0, ds0, p0, q0, hargs, rfl, rfl, h0, r0⟩ := trodAll_cons hA
  obtain ⟨v1, vs1, d1, ds1, p1, q1, rfl, rfl, rfl, h1, r1⟩ := trodAll_cons r0
  obtain ⟨v2, vs2, d2, ds2, p2, q2, rfl, rfl, rfl, h2, r2⟩ := trodAll_cons r1
  obtain ⟨rfl, rfl, rfl⟩ := trodAll_nil r2
  obtain rfl : args = #[v0, v1, v2] := by cases args; simp_all
  obtain ⟨rfl, rfl⟩ := trodVars_none hV
  have lt0 : ∀ x ∈ p0, x.block < W.heap.size := by obtain ⟨m, hm⟩ := h0; exact DataW.trod_lt m _ _ _ hm
  have lt1 : ∀ x ∈ p1, x.block < W.heap.size := by obtain ⟨m, hm⟩ := h1; exact DataW.trod_lt m _ _ _ hm
  have lt2 : ∀ x ∈ p2, x.block < W.heap.size := by obtain ⟨m, hm⟩ := h2; exact DataW.trod_lt m _ _ _ hm
  obtain ⟨c0, hc0⟩ : ∃ c : Cfg, v0 = c.v := by
    obtain ⟨zs, h1, h2, _⟩ := open_flat (ks := [.i64, .i64, .i64, .i64, .u64]) Try.underlying24 (by kernel_rfl) (fun i hi => by
      match i, hi with
      | 0, _ => exact ⟨_, rfl, rfl, by kernel_rfl, by kernel_rfl⟩
      | 1, _ => exact ⟨_, rfl, rfl, by kernel_rfl, by kernel_rfl⟩
      | 2, _ => exact ⟨_, rfl, rfl, by kernel_rfl, by kernel_rfl⟩
      | 3, _ => exact ⟨_, rfl, rfl, by kernel_rfl, by kernel_rfl⟩
      | 4, _ => exact ⟨_, rfl, rfl, by kernel_rfl, by kernel_rfl⟩) (hval 0 24 v0 rfl rfl) h0
    match zs, h1 with
    | [a, b, c, d, e], _ => exact ⟨⟨a, b, c, d, e⟩, h2⟩
  obtain ⟨l1, hl1⟩ := open_row Try.underlying54 Try.underlying22 (by kernel_rfl) (hval 1 54 v1 rfl rfl) h1
  obtain ⟨h2z, s2a, st2, s2b, l2a, rows2, hzv2, hzw2, hra2, hrb2⟩ : ∃ h s1 st s2 l1 rows, v2 = .agg ⟨[.int .u64 h, s1, .int .i64 st, s2]⟩ ∧ (Lit.int .u64 h).wf = true ∧ RowIn .i64 W s1 l1 ∧ RowR [.i64, .i64, .i64, .u64] W s2 rows := by
    obtain ⟨vs, hvl, hvv, hva⟩ := open_struct (shs := [.int .u64, .ints .i64 3, .int .i64, .recs [.i64, .i64, .i64, .u64] 163 (((Try.prog.underlying 163).bind fun d => match d with | .struct fs => some fs | _ => none).getD #[])]) (ts := [22, 90, 3, 55]) Try.underlying105 (by kernel_rfl) (show Try.prog.cellTypes Try.prog.depth 105 = some [22, 90, 3, 55] by kernel_rfl) rfl (fun i hi => by
      match i, hi with
      | 0, _ => exact ⟨_, rfl, rfl, by kernel_rfl, rfl, Try.underlying22⟩
      | 1, _ => exact ⟨_, rfl, rfl, by kernel_rfl, rfl, Try.underlying90, Try.underlying3, by kernel_rfl⟩
      | 2, _ => exact ⟨_, rfl, rfl, by kernel_rfl, rfl, Try.underlying3⟩
      | 3, _ => exact ⟨_, rfl, rfl, by kernel_rfl, rfl, Try.underlying55, by kernel_rfl, by kernel_rfl, fun i hi => by
        match i, hi with
        | 0, _ => exact ⟨_, rfl, rfl, by kernel_rfl, by kernel_rfl⟩
        | 1, _ => exact ⟨_, rfl, rfl, by kernel_rfl, by kernel_rfl⟩
        | 2, _ => exact ⟨_, rfl, rfl, by kernel_rfl, by kernel_rfl⟩
        | 3, _ => exact ⟨_, rfl, rfl, by kernel_rfl, by kernel_rfl⟩⟩) (hval 2 105 v2 rfl rfl) h2
    match vs, hvl with
    | [a0, a1, a2, a3], _ =>
      obtain ⟨z0, e0, w0⟩ := hva 0 (Nat.zero_lt_succ _)
      obtain ⟨l1, q1⟩ := hva 1 (Nat.le_of_ble_eq_true rfl)
      obtain ⟨z2, e2, _⟩ := hva 2 (Nat.le_of_ble_eq_true rfl)
      obtain ⟨rows, q3⟩ := hva 3 (Nat.le_of_ble_eq_true rfl)
      have e0 : a0 = .int .u64 z0 := e0
      have e2 : a2 = .int .i64 z2 := e2
      exact ⟨z0, a1, z2, a3, l1, rows, by rw [hvv, e0, e2], w0, q1, q3⟩
  have hs2 : l2a.length * 8 ≤ 140737488355328 := by
    have h8 : Try.checked.prog.bytesOf 3 = 8 := by kernel_rfl
    rw [hzv2] at h2
    have hw : (DataW.weights Try.checked.prog 105 d2).all (· ≤ reachBytes) = true := List.all_eq_true.2 fun n hn => List.all_eq_true.1 hsz0 n (DataW.weights_mem_each (j := 2) (t := 105) (d := d2) rfl rfl n hn)
    have := field_sized (i := 1) (v := s2a) Try.underlying105 h2 hw rfl rfl (by kernel_rfl) rfl Try.underlying90 Try.underlying3 (by kernel_rfl) hra2
    have h9 : Try.prog.bytesOf 3 = 8 := h8
    rw [h9] at this
    unfold reachBytes at this
    omega
  clear hA0 hval0
  subst hc0 hzv2
  refine (walk c0 v1 l1 s2a s2b h2z st2 l2a rows2 W hl1 hzw2 hra2 hrb2 hs2).mono fun e W' ⟨he, bel⟩ => ?_
  subst he
  exact ⟨_, rfl, _, _, _, [], _, [], hW', trodAll_mk1 (shut_bool Try.underlying4 _), (trodAll_cons_mk (Below.trod laidOut (by kernel_rfl) (of_decide_eq_true (by kernel_rfl)) h0 bel lt0) (trodAll_cons_mk (Below.trod laidOut (by kernel_rfl) (of_decide_eq_true (by kernel_rfl)) h1 bel lt1) (trodAll_cons_mk (Below.trod laidOut (by kernel_rfl) (of_decide_eq_true (by kernel_rfl)) h2 bel lt2) trodAll_mk0))), rfl, bel.frame _, fun h => by cases h⟩

theorem over : Rows.gateEntersRow.holds Try.pinned (OpenSpec.ofChange Rows.gateEntersSpec) :=
  OpenClaim.holds_of_wide 14 Try.f14 rfl rfl rfl rfl rfl rfl rfl ⟨rfl, rfl, rfl, rfl, rfl⟩ rfl rfl rfl rfl rfl named Try.func14 closed inst wrapper (fun os started H enc _ => lifted os started H enc)

theorem proved : Rows.GateEntersSaid := over
end Go.Proofs.Ytmliekdbhefpkaa.GateEntersDone
