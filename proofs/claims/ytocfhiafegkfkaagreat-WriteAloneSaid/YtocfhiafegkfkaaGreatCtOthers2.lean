/- The slots that a word of a key names, but for one: the program's way and the document's, as contracts. -/
import Derived.Test.YtocfhiafegkfkaaGreatCtGate2
import Derived.RangeFuncBox
import Derived.RangeFuncLeaves
import Derived.Shelf.Abstract
import Derived.OwnWalkIn
import Derived.TacticsInMore
import Derived.LoopNIn
import Derived.LoopIn
import Derived.Maps.AppendAt
namespace Go.Proofs.YtocfhiafegkfkaaGreat.Ct
open Go Go.Proofs Go.Proofs.YtocfhiafegkfkaaGreat.Ev
open Go.RowKit

open Dec in
section
variable (k slot : Int)
theorem mo_x : callR Eg7 8 154 [.int .i64 k, .int .i64 slot] ⟨[], 0, []⟩ [t, t, Dec.l, Dec.l] [] = some (.int .u64 0, ⟨[], 0, []⟩, [(k != 0) = true, (k != 1) = true]) := by kernel_rfl
theorem mo_0a : callR Eg7 8 154 [.int .i64 0, .int .i64 slot] ⟨[], 0, []⟩ [Dec.l, Dec.l, t, Dec.l] [] = some (.int .u64 0, ⟨[], 0, []⟩, [decide (slot < 0) = true]) := by kernel_rfl
theorem mo_0b : callR Eg7 8 154 [.int .i64 0, .int .i64 slot] ⟨[], 0, []⟩ [Dec.l, Dec.l, f, t] [] = some (.int .u64 0, ⟨[], 0, []⟩, [decide (slot < 0) = false, decide (slot ≥ 12) = true]) := by kernel_rfl
theorem mo_0c : callR Eg7 8 154 [.int .i64 0, .int .i64 slot] ⟨[], 0, []⟩ [Dec.l, Dec.l, f, f] [] = some (.int .u64 (u64 (u64 (1 * 2 ^ min slot.toNat 64) * 2 ^ min (w64 (0 * 12)).toNat 64)), ⟨[], 0, []⟩, [decide (slot < 0) = false, decide (slot ≥ 12) = false, 0 ≤ slot, 0 ≤ w64 (0 * 12)]) := by kernel_rfl
theorem mo_1a : callR Eg7 8 154 [.int .i64 1, .int .i64 slot] ⟨[], 0, []⟩ [Dec.l, Dec.l, t, Dec.l] [] = some (.int .u64 0, ⟨[], 0, []⟩, [decide (slot < 0) = true]) := by kernel_rfl
theorem mo_1b : callR Eg7 8 154 [.int .i64 1, .int .i64 slot] ⟨[], 0, []⟩ [Dec.l, Dec.l, f, t] [] = some (.int .u64 0, ⟨[], 0, []⟩, [decide (slot < 0) = false, decide (slot ≥ 12) = true]) := by kernel_rfl
theorem mo_1c : callR Eg7 8 154 [.int .i64 1, .int .i64 slot] ⟨[], 0, []⟩ [Dec.l, Dec.l, f, f] [] = some (.int .u64 (u64 (u64 (1 * 2 ^ min slot.toNat 64) * 2 ^ min (w64 (1 * 12)).toNat 64)), ⟨[], 0, []⟩, [decide (slot < 0) = false, decide (slot ≥ 12) = false, 0 ≤ slot, 0 ≤ w64 (1 * 12)]) := by kernel_rfl
end
theorem mo_C (k slot : Int) : CallC Tryz.prog 154 [.int .i64 k, .int .i64 slot] ⟨[], 0, []⟩ (.int .u64 (ofI k slot)) ⟨[], 0, []⟩ := by
  have ha : ∀ h : k < 0 ∨ k > 1 ∨ slot < 0 ∨ slot > 11, ofI k slot = 0 := fun h => by
    unfold ofI atI
    simp only [if_pos h]
    rfl
  have hb : ¬ (k < 0 ∨ k > 1 ∨ slot < 0 ∨ slot > 11) → ofI k slot = pw (12 * k + slot) := fun h => by
    unfold ofI atI
    simp only [if_neg h]
    rw [if_neg (by omega)]
  by_cases h0 : k = 0
  · subst h0
    by_cases h3 : slot < 0
    · rw [ha (by omega)]
      exact path Eg7ok 8 (mo_0a slot) (pcs_of ⟨decide_eq_true h3, trivial⟩) rfl
    by_cases h4 : slot ≥ 12
    · rw [ha (by omega)]
      exact path Eg7ok 8 (mo_0b slot) (pcs_of ⟨decide_eq_false h3, decide_eq_true h4, trivial⟩) rfl
    rw [hb (by omega)]
    have h := path Eg7ok 8 (mo_0c slot) (pcs_of ⟨decide_eq_false h3, decide_eq_false h4, by omega, by decide, trivial⟩) rfl
    have hp := pw_pos slot
    have hq := pw_le (n := slot) (by omega)
    have e1 : u64 (1 * 2 ^ min slot.toNat 64) = pw slot := by
      rw [Nat.min_eq_left (by omega), Int.one_mul]
      exact w_u64 (n := pw slot) (by omega) (by omega)
    have e2 : u64 (pw slot * 2 ^ min (w64 (0 * 12)).toNat 64) = pw (12 * 0 + slot) := by
      rw [show min (w64 (0 * 12)).toNat 64 = 0 from by decide, Int.pow_zero, Int.mul_one, Int.mul_zero, Int.zero_add]
      exact w_u64 (n := pw slot) (by omega) (by omega)
    rw [e1, e2] at h
    exact h
  by_cases h1 : k = 1
  · subst h1
    by_cases h3 : slot < 0
    · rw [ha (by omega)]
      exact path Eg7ok 8 (mo_1a slot) (pcs_of ⟨decide_eq_true h3, trivial⟩) rfl
    by_cases h4 : slot ≥ 12
    · rw [ha (by omega)]
      exact path Eg7ok 8 (mo_1b slot) (pcs_of ⟨decide_eq_false h3, decide_eq_true h4, trivial⟩) rfl
    rw [hb (by omega)]
    have h := path Eg7ok 8 (mo_1c slot) (pcs_of ⟨decide_eq_false h3, decide_eq_false h4, by omega, by decide, trivial⟩) rfl
    have hp := pw_pos slot
    have hq := pw_le (n := slot) (by omega)
    have hp' := pw_pos (12 * 1 + slot)
    have hq' := pw_le (n := 12 * 1 + slot) (by omega)
    have e1 : u64 (1 * 2 ^ min slot.toNat 64) = pw slot := by
      rw [Nat.min_eq_left (by omega), Int.one_mul]
      exact w_u64 (n := pw slot) (by omega) (by omega)
    have e3 : pw slot * 2 ^ min (w64 (1 * 12)).toNat 64 = pw (12 * 1 + slot) := by
      rw [show min (w64 (1 * 12)).toNat 64 = 12 from by decide]
      unfold pw
      rw [show (12 * 1 + slot).toNat = slot.toNat + 12 by omega, Int.pow_add]
    have e2 : u64 (pw slot * 2 ^ min (w64 (1 * 12)).toNat 64) = pw (12 * 1 + slot) := by
      rw [e3]
      exact w_u64 (by omega) (by omega)
    rw [e1, e2] at h
    exact h
  rw [ha (by omega)]
  exact path Eg7ok 8 (mo_x k slot) (pcs_of ⟨bne_iff_ne.2 h0, bne_iff_ne.2 h1, trivial⟩) rfl
theorem gOfM_ok : ∀ args hp v hp' pc, gOfS args hp = some (v, hp', pc) → ∀ ds, CallOk Tryz.prog 154 args hp ⟨v, hp', ds, pc⟩ := by
  intro args hp v hp' pc hg ds
  unfold gOfS at hg
  split at hg
  · simp only [Option.some.injEq, Prod.mk.injEq] at hg
    obtain ⟨rfl, rfl, rfl⟩ := hg
    exact CallC.pure (enters (fn := Tryz.f154) (by kernel_rfl) (by kernel_rfl) rfl) (fun _ => mo_C _ _) rfl rfl hp ds
  · cases hg
noncomputable def Em1 : Env := Eg7.add 154 gOfS
theorem Em1ok : EnvOk Em1 := Eg7ok.add gOfM_ok
theorem mw_path (w side slot : Int) : callR Em1 8 153 [.int .u64 w, .int .i64 side, .int .i64 slot] ⟨[], 0, []⟩ [] [] = some (.int .u64 (u64 ((BitVec.ofInt 64 w ||| BitVec.ofInt 64 (ofI side slot)).toNat : Int)), ⟨[], 0, []⟩, []) := by kernel_rfl
theorem mh_path (w side slot : Int) : callR Em1 8 139 [.int .u64 w, .int .i64 side, .int .i64 slot] ⟨[], 0, []⟩ [] [] = some (.bool (decide (u64 ((BitVec.ofInt 64 w &&& BitVec.ofInt 64 (ofI side slot)).toNat : Int) > 0)), ⟨[], 0, []⟩, []) := by kernel_rfl
theorem mw_C {w : Int} (hw : Wd w) (side slot : Int) : CallC Tryz.prog 153 [.int .u64 w, .int .i64 side, .int .i64 slot] ⟨[], 0, []⟩ (.int .u64 (withI w side slot)) ⟨[], 0, []⟩ := by
  have h := path Em1ok 8 (mw_path w side slot) (by simp) rfl
  unfold ofI at h
  unfold withI
  by_cases ha : atI side slot < 0
  · rw [if_pos ha] at h ⊢
    have e : u64 ((BitVec.ofInt 64 w ||| BitVec.ofInt 64 0).toNat : Int) = w := by
      rw [u64_bv, show BitVec.ofInt 64 0 = 0#64 from rfl, BitVec.or_zero, BitVec.toNat_ofInt]
      obtain ⟨w0, w1⟩ := hw
      omega
    rw [e] at h
    exact h
  · rw [if_neg ha] at h ⊢
    rw [or_pw hw (by have := (atI_le side slot).2; omega)] at h
    exact h
theorem gt_ne {x : Int} (h : 0 ≤ x) : decide (x > 0) = (x != 0) := by
  by_cases e : x = 0
  · subst e; rfl
  · rw [decide_eq_true (show x > 0 by omega), bne_iff_ne.2 e]
theorem mh_C {w : Int} (hw : Wd w) (side slot : Int) : CallC Tryz.prog 139 [.int .u64 w, .int .i64 side, .int .i64 slot] ⟨[], 0, []⟩ (.bool (hasI w side slot)) ⟨[], 0, []⟩ := by
  have h := path Em1ok 8 (mh_path w side slot) (by simp) rfl
  rw [gt_ne (u64_rng _).1] at h
  unfold ofI at h
  unfold hasI
  by_cases ha : atI side slot < 0
  · rw [if_pos ha] at h
    have e : (u64 ((BitVec.ofInt 64 w &&& BitVec.ofInt 64 0).toNat : Int) != 0) = false := by
      rw [u64_bv, show BitVec.ofInt 64 0 = 0#64 from rfl, BitVec.and_zero]
      rfl
    rw [e] at h
    rw [decide_eq_false (show ¬ 0 ≤ atI side slot by omega), Bool.false_and]
    exact h
  · rw [if_neg ha, and_pw hw (by have := (atI_le side slot).2; omega)] at h
    rw [decide_eq_true (show 0 ≤ atI side slot by omega), Bool.true_and]
    exact h
noncomputable def Em2 : Env := (Em1.add 153 (gW3 rWith)).add 139 (gW3 rHas)
theorem Em2ok : EnvOk Em2 := (Em1ok.add (gW3_ok (r := rWith) (enters (fn := Tryz.f153) (by kernel_rfl) (by kernel_rfl) rfl) (fun _ _ _ => rfl) (fun _ a b h => mw_C h a b))).add (gW3_ok (r := rHas) (enters (fn := Tryz.f139) (by kernel_rfl) (by kernel_rfl) rfl) (fun _ _ _ => rfl) (fun _ a b h => mh_C h a b))
end Go.Proofs.YtocfhiafegkfkaaGreat.Ct
namespace Go.Proofs.YtocfhiafegkfkaaGreat.Ct
open Go Go.Proofs Go.Proofs.YtocfhiafegkfkaaGreat.Ev
open Go.RowKit Go.Shelf

attribute [local go_sem] Oper.semAt_some

/-- What a call of numbers alone comes to, in any world. -/
theorem CallC.grown {P : Program} {f : FuncId} {args : List Value} {v : Value} (h : CallC P f args ⟨[], 0, []⟩ v ⟨[], 0, []⟩) (ha : ∀ ρ : Nat → Nat, args.map (ren ρ) = args) (hv : ∀ ρ : Nat → Nat, ren ρ v = v) (w : World) :
    Calls P f ⟨args⟩ w fun e w1 => e = .returned v ∧ w.grownBy w1 none := by
  refine (h.2 (fun _ => 0) w args (fun ρ' _ => (ha ρ').symm) ⟨fun _ _ n b hb => by simp [Hp.get, lookB] at hb, fun n b hb => by simp [Hp.get, lookB] at hb, fun n m b c hb => by simp [Hp.get, lookB] at hb⟩).mono fun e w1 he => ?_
  obtain ⟨u, ρ1, rfl, _, _, hV, hF⟩ := he
  exact ⟨by rw [hV.self, hv], ⟨hF.os, hF.tape, hF.output, hF.size, fun k hk _ => hF.old k hk fun n b hb => by simp [Hp.get, lookB] at hb⟩⟩
theorem has_in (n : Nat) {wd : Int} (hw : Wd wd) (kd x : Int) (w : World) : CallsIn Fence.wide n Tryz.prog 139 #[.int .u64 wd, .int .i64 kd, .int .i64 x] w fun e w1 => e = .returned (.bool (hasI wd kd x)) ∧ w.grownBy w1 none :=
  callsIn_wide.2 (CallC.grown (mh_C hw kd x) (fun _ => rfl) (fun _ => rfl) w)

/-- The slots below k that are marked. -/
def upK (wd kd : Int) (k : Nat) : List Int := ((List.range k).map Int.ofNat).filter (hasI wd kd)
theorem upK_hit {wd kd : Int} {k : Nat} (h : hasI wd kd (k : Int) = true) : upK wd kd (k + 1) = upK wd kd k ++ [(k : Int)] := by
  unfold upK
  rw [List.range_succ, List.map_append, List.filter_append]
  congr 1
  simp [h]
theorem upK_miss {wd kd : Int} {k : Nat} (h : hasI wd kd (k : Int) = false) : upK wd kd (k + 1) = upK wd kd k := by
  unfold upK
  rw [List.range_succ, List.map_append, List.filter_append]
  simp [h]
theorem upK_len (wd kd : Int) (k : Nat) : (upK wd kd k).length ≤ k := by
  unfold upK
  refine Nat.le_trans (List.length_filter_le _ _) ?_
  simp
/-- The two boxes that the iterator reads lie as they lay. -/
def KpO (Bw Bk : Nat) (W W' : World) : Prop := W'.heap[Bw]? = W.heap[Bw]? ∧ W'.heap[Bk]? = W.heap[Bk]?
theorem KpO.trans {Bw Bk : Nat} {A B C : World} (h : KpO Bw Bk A B) (k : KpO Bw Bk B C) : KpO Bw Bk A C := ⟨k.1.trans h.1, k.2.trans h.2⟩
theorem KpO.cw {Bw Bk : Nat} {A B : World} (h : KpO Bw Bk A B) : B.cell? ⟨Bw, 0, none⟩ = A.cell? ⟨Bw, 0, none⟩ := by simp only [World.cell?, h.1]
theorem KpO.ck {Bw Bk : Nat} {A B : World} (h : KpO Bw Bk A B) : B.cell? ⟨Bk, 0, none⟩ = A.cell? ⟨Bk, 0, none⟩ := by simp only [World.cell?, h.2]
theorem cell_lt {A : World} {b : Nat} {v : Value} (h : A.cell? ⟨b, 0, none⟩ = some v) : b < A.heap.size := by
  refine Nat.lt_of_not_le fun hn => ?_
  simp [World.cell?, Array.getElem?_eq_none hn] at h
theorem KpO.grown {Bw Bk : Nat} {A B C : World} (h : KpO Bw Bk A B) (hg : B.grownBy C none) (h1 : Bw < B.heap.size) (h2 : Bk < B.heap.size) : KpO Bw Bk A C :=
  h.trans ⟨hg.block _ h1 (by simp), hg.block _ h2 (by simp)⟩
theorem upK_pre {wd kd : Int} {k m : Nat} (h : k ≤ m) : upK wd kd k <+: upK wd kd m := by
  obtain ⟨d, rfl⟩ : ∃ d, m = k + d := ⟨m - k, by omega⟩
  unfold upK
  rw [List.range_add, List.map_append, List.filter_append]
  exact List.prefix_append _ _
set_option maxRecDepth 100000 in
set_option maxHeartbeats 2000000 in
theorem all1_in (n : Nat) (hn : 1 ≤ n) (l Bw Bk B0 : Nat) (wd kd : Int) (hw : Wd wd) (J Jx : List Int → World → Prop) (hJ : AbidesFrom B0 J)
    (hY : ∀ pre x W, J pre W → pre.length < 12 → YieldAt Fence.wide (n - 1) Tryz.prog l #[.int .i64 x] W fun e W' =>
      (e = .returned (.bool true) ∧ J (pre ++ [x]) W' ∧ KpO Bw Bk W W') ∨ (e = .returned (.bool false) ∧ Jx (pre ++ [x]) W'))
    (W : World) (hBw : W.cell? ⟨Bw, 0, none⟩ = some (.int .u64 wd)) (hBk : W.cell? ⟨Bk, 0, none⟩ = some (.int .i64 kd)) (h0 : J [] W) :
    CallsIn Fence.wide n Tryz.prog 157 #[.func (.yield l) #[] #[], .pointer (some ⟨Bw, 0, none⟩), .pointer (some ⟨Bk, 0, none⟩)] W fun e W' => (∃ v, e = .returned v) ∧
      ((∃ ys, ys = upK wd kd 12 ∧ J ys W') ∨ (∃ pre, pre <+: upK wd kd 12 ∧ Jx pre W')) := by
  refine callsIn_of_wp Tryz.func157 rfl trivial ?_ rfl
  simp only [Tryz.ntmps157, List.size_toArray, List.length_cons, List.length_nil, Nat.reduceAdd, Nat.reduceSub, Array.replicate_succ, Array.replicate_zero, List.push_toArray, List.append_toArray, List.nil_append, List.cons_append]
  gi_wp2
  gi_loopw [5] (fun p wr => ∃ k : Nat, p = .int .i64 (k : Int) ∧ k ≤ 12 ∧ J (upK wd kd k) wr ∧ KpO Bw Bk W wr)
    (fun p wr => 12 - (intOf p).toNat)
  case atStart =>
    exact ⟨0, rfl, by omega, h0, rfl, rfl⟩
  case round =>
    obtain ⟨k, rfl, hk, hJs, hB⟩ := hrel
    have hcw : wr.cell? ⟨Bw, 0, none⟩ = some (.int .u64 wd) := hB.cw.trans hBw
    have hck : wr.cell? ⟨Bk, 0, none⟩ = some (.int .i64 kd) := hB.ck.trans hBk
    by_cases hlt : (k : Int) < 12
    · have hlen : (upK wd kd k).length < 12 := by have := upK_len wd kd k; omega
      cases hh : hasI wd kd (k : Int) with
      | true =>
        gi_wp2_with (refine ⟨trivial, ?_⟩; gi_at_call 139; refine (has_in _ hw _ _ _).mono ?_; rintro e w1 ⟨rfl, hg⟩; obtain ⟨fn, tmps, assign, body, hy, hR⟩ := hY _ (k : Int) w1 (hJ _ _ _ none hJs hg (by simp)) hlen)
        refine hR.mono ?_
        rintro e W3 (⟨rfl, hJ3, hk3⟩ | ⟨rfl, hJx3⟩)
        · gi_wp2
          go_roundw
          case rel => exact ⟨k + 1, by simp, by omega, by rw [upK_hit hh]; exact hJ3, (hB.grown hg (cell_lt hcw) (cell_lt hck)).trans hk3⟩
          case measure => simp only [intOf]; omega
        · gi_wp2
          refine bodyPost_ret (results_none rfl _ _ _) rfl ?_
          exact ⟨⟨_, rfl⟩, .inr ⟨upK wd kd k ++ [(k : Int)], by rw [← upK_hit hh]; exact upK_pre (by omega), hJx3⟩⟩
      | false =>
        gi_wp2_with (refine ⟨trivial, ?_⟩; gi_at_call 139; refine (has_in _ hw _ _ _).mono ?_; rintro e w1 ⟨rfl, hg⟩)
        refine ⟨fun _ h => (by cases h), ?_⟩
        gi_wp2
        go_roundw
        case rel => exact ⟨k + 1, by simp, by omega, by rw [upK_miss hh]; exact hJ _ _ _ none hJs hg (by simp), hB.grown hg (cell_lt hcw) (cell_lt hck)⟩
        case measure => simp only [intOf]; omega
    · obtain rfl : k = 12 := by omega
      gi_wp2
      go_end0
      exact ⟨⟨_, rfl⟩, .inl hJs⟩
set_option maxHeartbeats 1000000 in
theorem all_in (n : Nat) (wd kd : Int) (W : World) :
    CallsIn Fence.wide n Tryz.prog 148 #[.int .u64 wd, .int .i64 kd] W fun e w' => e = .returned (.func (.func 157) #[] #[.pointer (some ⟨W.heap.size, 0, none⟩), .pointer (some ⟨W.heap.size + 1, 0, none⟩)]) ∧
      w' = (W.alloc (.cells #[.int .u64 wd] 22)).alloc (.cells #[.int .i64 kd] 3) := by
  refine callsIn_of_wp Tryz.func148 rfl trivial ?_ rfl
  simp only [Tryz.ntmps148, List.size_toArray, List.length_cons, List.length_nil, Nat.reduceAdd, Nat.reduceSub, Array.replicate_succ, Array.replicate_zero, List.push_toArray, List.append_toArray, List.nil_append, List.cons_append]
  gi_wp2
  go_ret
  exact ⟨rfl, rfl⟩
theorem all_stops (n : Nat) (hn : 1 ≤ n) (Bw Bk : Nat) (wd kd : Int) (hw : Wd wd) (w : World) (hc : w.cell? ⟨Bw, 0, none⟩ = some (.int .u64 wd)) (hk : w.cell? ⟨Bk, 0, none⟩ = some (.int .i64 kd)) :
    SeqStopsK Fence.wide n Tryz.prog 157 #[.pointer (some ⟨Bw, 0, none⟩), .pointer (some ⟨Bk, 0, none⟩)] (fun x : Int => #[Value.int .i64 x]) (KpO Bw Bk) (fun ys => ys = upK wd kd 12) (fun pre => pre <+: upK wd kd 12) 12 w := fun l J Jx W hW hJ _ hY h0 =>
  all1_in n hn l Bw Bk _ wd kd hw J Jx hJ hY W ((hW.cell (p := ⟨Bw, 0, none⟩) (cell_lt hc)).trans hc) ((hW.cell (p := ⟨Bk, 0, none⟩) (cell_lt hk)).trans hk) h0

theorem infoI : (Tryz.prog.info? 3).map (fun i => (i.zero, i.size, i.bytes)) = some (some (.int .i64 0), 1, 8) := by kernel_rfl
/-- All but one. -/
def butL (slot : Int) (l : List Int) : List Int := l.filter fun x => decide (x ≠ slot)
theorem but_hit (slot : Int) (pre : List Int) {x : Int} (h : x ≠ slot) : butL slot (pre ++ [x]) = butL slot pre ++ [x] := by simp [butL, h]
theorem but_miss (slot : Int) (pre : List Int) : butL slot (pre ++ [slot]) = butL slot pre := by simp [butL]
def othL (wd kd slot : Int) : List Int := butL slot (upK wd kd 12)
theorem ownsRow_re {W : World} {b b' : Nat} {e : TypeId} {size : Nat} {v : Value} {n : Nat} {xs : List Value} (h : W.ownsRow b e size v n xs) (h' : ∀ g, v.ownBlock = some g → b' ≤ g) : W.ownsRow b' e size v n xs := by
  refine ⟨h.1, ?_⟩
  rcases h.2 with h | ⟨g, cap, cur, rfl, _, h3⟩
  · exact .inl h
  · exact .inr ⟨g, cap, cur, rfl, h' g rfl, h3⟩
theorem ownsRow_ge {W : World} {b : Nat} {e : TypeId} {size : Nat} {v : Value} {n : Nat} {xs : List Value} (h : W.ownsRow b e size v n xs) : ∀ g, v.ownBlock = some g → b ≤ g := by
  intro g hg
  rcases h.2 with ⟨rfl, _⟩ | ⟨g', cap, cur, rfl, hb, _⟩
  · cases hg
  · simp only [Value.ownBlock, Option.some.injEq] at hg
    omega
set_option maxRecDepth 100000 in
set_option maxHeartbeats 2000000 in
theorem oth_in (n : Nat) (hn : 4 ≤ n) (wd kd slot : Int) (hw : Wd wd) (w : World) :
    CallsIn Fence.wide n Tryz.prog 135 #[.int .u64 wd, .int .i64 kd, .int .i64 slot] w fun e W' => ∃ v, e = .returned v ∧ W'.ownsRow w.heap.size 3 1 v (othL wd kd slot).length ((othL wd kd slot).map (Value.int .i64)) ∧ (v = .slice none 0 0 ↔ othL wd kd slot = []) ∧ Below w.heap.size w W' := by
  have h1 : 1 ≤ n := by omega
  obtain ⟨i0, hi, hz0, hz1, hz2⟩ := info_parts infoI
  refine callsIn_of_wp_marks Tryz.func135 rfl trivial ?_ rfl
  simp only [Tryz.ntmps135, List.size_toArray, List.length_cons, List.length_nil, Nat.reduceAdd, Nat.reduceSub, Array.replicate_succ, Array.replicate_zero, List.push_toArray, List.append_toArray, List.nil_append, List.cons_append]
  gi_wp2_with (refine ⟨trivial, ?_⟩; gi_at_call 148; refine (all_in (n - 1) _ _ _).mono ?_; rintro e w' ⟨rfl, rfl⟩)
  obtain ⟨w4, hw4⟩ : ∃ w4, (((w.alloc (.cells #[.int .i64 slot] 3)).alloc (.cells #[.slice none 0 0] 58)).alloc (.cells #[.int .u64 wd] 22)).alloc (.cells #[.int .i64 kd] 3) = w4 := ⟨_, rfl⟩
  have hs4 : w4.heap.size = w.heap.size + 4 := by rw [← hw4]; simp
  have bS : Boxed w4 w.heap.size 3 (.int .i64 slot) := by
    rw [← hw4]
    exact (((Boxed.new w 3 (.int .i64 slot)).alloc _).alloc _).alloc _
  have bO : Boxed w4 (w.heap.size + 1) 58 (.slice none 0 0) := by
    have := (((Boxed.new (w.alloc (.cells #[.int .i64 slot] 3)) 58 (.slice none 0 0)).alloc (.cells #[.int .u64 wd] 22)).alloc (.cells #[.int .i64 kd] 3))
    rw [World.size_alloc, hw4] at this
    exact this
  have bW : Boxed w4 (w.heap.size + 1 + 1) 22 (.int .u64 wd) := by
    have := (Boxed.new ((w.alloc (.cells #[.int .i64 slot] 3)).alloc (.cells #[.slice none 0 0] 58)) 22 (.int .u64 wd)).alloc (.cells #[.int .i64 kd] 3)
    rw [World.size_alloc, World.size_alloc, hw4] at this
    exact this
  have bK : Boxed w4 (w.heap.size + 1 + 1 + 1) 3 (.int .i64 kd) := by
    have := Boxed.new (((w.alloc (.cells #[.int .i64 slot] 3)).alloc (.cells #[.slice none 0 0] 58)).alloc (.cells #[.int .u64 wd] 22)) 3 (.int .i64 kd)
    rw [World.size_alloc, World.size_alloc, World.size_alloc, hw4] at this
    exact this
  have hB4 : Below w.heap.size w w4 := by
    rw [← hw4]
    exact ((((Below.refl _ w).alloc (Nat.le_refl _) _).alloc (by simp) _).alloc (by simp; omega) _).alloc (by simp; omega) _
  rw [hw4]
  refine wpIn_rangeFunc_ownG rfl h1 (gf := 157) (lb := #[.pointer (some ⟨w.heap.size + 1 + 1, 0, none⟩), .pointer (some ⟨w.heap.size + 1 + 1 + 1, 0, none⟩)]) rfl trivial (enters_of Tryz.func157 (by kernel_rfl) rfl)
    (all_stops (n - 1) (by omega) (w.heap.size + 1 + 1) (w.heap.size + 1 + 1 + 1) wd kd hw w4 bW.cell bK.cell) (fun h k => h.trans k) (fun W l o o' hl _ _ _ => ⟨World.putObj_heap_other (by omega), World.putObj_heap_other (by omega)⟩) (Below.refl _ _) (fun _ => rfl)
    (fun pre W => (∃ v, Boxed W (w.heap.size + 1) 58 v ∧ W.ownsRow (w.heap.size + 4) 3 1 v (butL slot pre).length ((butL slot pre).map (Value.int .i64)) ∧ (v = .slice none 0 0 ↔ butL slot pre = [])) ∧ (Boxed W w.heap.size 3 (.int .i64 slot) ∧ Below w.heap.size w4 W))
    (fun _ _ _ => False)
    (OwnFrom.and (Own.from (holdsRow_own (w.heap.size + 4) (w.heap.size + 1) 58 3 1 (fun pre => (butL slot pre).length) (fun pre => (butL slot pre).map (Value.int .i64)) (fun pre v => v = .slice none 0 0 ↔ butL slot pre = [])) _)
      (OwnFrom.and (Own.from (fun _ X Y row hs hg hrow => Boxed.kept (show Boxed X w.heap.size 3 (.int .i64 slot) from hs) hg (fun e' => by obtain ⟨o, ho, hc⟩ := hrow w.heap.size e'.symm; rw [show X.heap[w.heap.size]? = _ from hs] at ho; cases ho; cases hc)) _) (ownFrom_below (by omega) (by omega))))
    (fun _ _ _ _ _ hs _ _ => hs)
    ⟨⟨_, bO, World.ownsRow_nil _ _ _ _, by simp [butL]⟩, bS, Below.refl _ _⟩
    (fun x => { tmps := #[.int .u64 wd, .int .i64 kd, .int .i64 slot, undef, undef, .pointer (some ⟨w.heap.size, 0, none⟩), .slice none 0 0, .pointer (some ⟨w.heap.size + 1, 0, none⟩), .int .i64 x, .int .u64 wd, .int .i64 kd, .func (.func 157) #[] #[.pointer (some ⟨w.heap.size + 1 + 1, 0, none⟩), .pointer (some ⟨w.heap.size + 1 + 1 + 1, 0, none⟩)], .int .i64 x, undef, undef, undef, undef, undef, undef, undef, undef], defers := [] }) ?assign ?body ?done ?stop
  case assign =>
    intro l x W K hK
    gi_wp2
    exact hK
  case body =>
    rintro l pre x W ⟨⟨v, hv, hrow, hnil⟩, hs, hB⟩ hlt
    have hW4 : w.heap.size + 4 ≤ W.heap.size := by have := hB.size; omega
    have hc := hv.cell
    have hcs := hs.cell
    have hpl : (butL slot pre).length ≤ pre.length := List.length_filter_le _ _
    by_cases hx : x = slot
    · subst hx
      gi_wp2
      exact ⟨KeepsFrom.refl _ _, ⟨rfl, rfl⟩, ⟨v, hv, by rw [but_miss]; exact hrow, by rw [but_miss]; exact hnil⟩, hs, hB⟩
    · gi_wp2_with (gi_at_builtin; go_loud (refine wpListIn_append_own _ rfl _ _ 58 rfl (w.heap.size + 4) 3 i0 (.int .i64 0) 1 8 Tryz.underlying58 hi hz0 hz1 hz2 rfl (by decide) _ _ _ rfl (hrow.alloc _) ⟨W.heap.size, 0, none⟩ 1 1 [.int .i64 x] rfl rfl (cell_one_new _ _ _) (by simp [Value.oneCell']) (Nat.le_trans (show (butL slot pre).length + 1 ≤ 12 by omega) (by decide)) (by omega) (by rw [World.size_alloc]; omega) ?_; intro v' w1 hown' hgrow _; obtain ⟨g', cap', rfl⟩ := ownsRow_succ hown'; obtain ⟨hv1, hv2, hr2, hk2, hb2⟩ := hv.appended (n₀ := w.heap.size) (by decide) (ownsRow_re hrow fun g hg => by have := ownsRow_ge hrow g hg; omega) (by omega) (by omega) (ownsRow_re hown' fun g hg => by have := ownsRow_ge hown' g hg; omega) hgrow; have hc1 := hv1.cell; have hf1 := hv1.frozen))
      have hge := ownsRow_ge hown'
      have hkeep : ∀ k, k < w.heap.size + 4 → k ≠ w.heap.size + 1 → (w1.setCell ⟨w.heap.size + 1, 0, none⟩ (.slice (some ⟨g', 0, none⟩) ((butL slot pre).length + 1) cap')).heap[k]? = W.heap[k]? := fun k hk hne => by
        rw [Below.heap_setCell _ _ _ _ hne, hgrow.block k (by simp; omega) (fun e => by have := ownsRow_ge hrow k e.symm; omega)]
        exact Below.heap_alloc _ _ _ (by omega)
      exact ⟨hk2.from _, ⟨hkeep _ (by omega) (by omega), hkeep _ (by omega) (by omega)⟩, ⟨_, hv2, by rw [but_hit slot pre hx]; simpa using ownsRow_re hr2 (fun g hg => hge g hg), by rw [but_hit slot pre hx]; simp⟩, (hkeep _ (by omega) (by omega)).trans hs, hB.trans hb2⟩
  case done =>
    rintro D ys W hD rfl ⟨⟨v, hv, hrow, hnil⟩, hs, hB⟩ hK
    have hc := hv.cell
    gi_wp2
    refine ⟨by simp, .inl ⟨_, _, rfl, run_takeDeferred hK, ?_⟩⟩
    exact ⟨_, results_tmp rfl _ _ _, v, rfl, ownsRow_putObj (ownsRow_re hrow fun g hg => by have := ownsRow_ge hrow g hg; omega) _ hK rfl, hnil, (hB4.trans hB).trans (belowK_b (w := w) (Nat.le_refl _) W D _ _ (by omega) hK rfl rfl)⟩
  case stop =>
    rintro D c pre W _ _ h _
    exact h.elim
end Go.Proofs.YtocfhiafegkfkaaGreat.Ct
namespace Go.Proofs.YtocfhiafegkfkaaGreat.Ct
open Go Go.Proofs Go.Proofs.YtocfhiafegkfkaaGreat.Ev
open Go.RowKit

abbrev ownI (l : List Int) : Blk := .own (.ints .i64 l intT) 1
/-- The program's, where there are none, and where there are some. -/
theorem oth_C0 {wd : Int} (hw : Wd wd) (kd slot : Int) (h : othL wd kd slot = []) : CallC Tryz.prog 135 [.int .u64 wd, .int .i64 kd, .int .i64 slot] ⟨[], 0, []⟩ (.slice none 0 0) ⟨[], 0, []⟩ := by
  refine ⟨enters (fn := Tryz.f135) (by kernel_rfl) (by kernel_rfl) rfl, fun ρ w cargs hargs hH => ?_⟩
  obtain rfl : cargs = [.int .u64 wd, .int .i64 kd, .int .i64 slot] := hargs.self
  refine (callsIn_wide.1 (oth_in 9 (by omega) wd kd slot hw w)).mono fun e w1 he => ?_
  obtain ⟨v, rfl, hrow, hnil, hB⟩ := he
  obtain rfl := hnil.2 h
  exact ⟨_, ρ, rfl, fun _ _ => rfl, ⟨fun _ _ n b hb => by simp [Hp.get, lookB] at hb, fun n b hb => by simp [Hp.get, lookB] at hb, fun n m b c hb => by simp [Hp.get, lookB] at hb⟩, fun _ _ => rfl,
    ⟨hB.os, hB.tape, hB.output, hB.size, fun k hk _ => hB.block k hk, fun n b hb => by simp [Hp.get, lookB] at hb⟩⟩
theorem oth_C1 {wd : Int} (hw : Wd wd) (kd slot : Int) (h : othL wd kd slot ≠ []) : CallC Tryz.prog 135 [.int .u64 wd, .int .i64 kd, .int .i64 slot] ⟨[], 0, []⟩ (.slice (some ⟨0, 0, some 1⟩) (othL wd kd slot).length 0) ⟨[(0, ownI (othL wd kd slot))], 2, []⟩ := by
  refine ⟨enters (fn := Tryz.f135) (by kernel_rfl) (by kernel_rfl) rfl, fun ρ w cargs hargs hH => ?_⟩
  obtain rfl : cargs = [.int .u64 wd, .int .i64 kd, .int .i64 slot] := hargs.self
  refine (callsIn_wide.1 (oth_in 9 (by omega) wd kd slot hw w)).mono fun e w1 he => ?_
  obtain ⟨v, rfl, hrow, hnil, hB⟩ := he
  generalize othL wd kd slot = l at *
  rcases hrow.2 with ⟨hv, _⟩ | ⟨g, cap, cur, rfl, hg, hc, h1, h2, h3, h4⟩
  · exact absurd (hnil.1 hv) h
  rw [Nat.mul_one] at h3 h4
  have hkey : ∀ {n : Nat} {b : Blk}, (⟨[(0, ownI l)], 2, []⟩ : Hp).get n = some b → n = 0 ∧ b = ownI l := fun {n b} hb => by
    simp only [Hp.get, lookB] at hb
    cases hn : Nat.beq 0 n
    · simp [hn] at hb
    · simp only [hn, cond_true, Option.some.injEq] at hb
      exact ⟨(beq_nat hn).symm, hb.symm⟩
  refine ⟨_, fun k => if k = 0 then g else cap, rfl, fun k hk => absurd hk (Nat.not_lt_zero k), ⟨fun ρ' ha n b hb _ => ?_, fun n b hb => ?_, fun n m b c hb hc' _ _ _ => ?_⟩, fun ρ' ha => ?_,
    ⟨hB.os, hB.tape, hB.output, hB.size, fun k hk _ => hB.block k hk, fun n b hb _ => .inr ?_⟩⟩
  · obtain ⟨rfl, rfl⟩ := hkey hb
    have e1 : ρ' 1 = cap := ha 1 (show 1 < 2 by omega)
    refine ⟨_, hc, ⟨cur.toList.drop l.length, ?_⟩, ?_, ?_, ?_⟩
    · rw [← h4, List.take_append_drop]
    · show cur.size = ρ' 1 * 1
      rw [e1, Nat.mul_one, h3]
    · show l.length ≤ ρ' 1
      rw [e1]; exact h1
    · rw [e1]; exact h2
  · obtain ⟨rfl, rfl⟩ := hkey hb
    show 0 < 2; omega
  · exact .inl ((hkey hb).1.trans (hkey hc').1.symm)
  · have e0 : ρ' 0 = g := ha 0 (show 0 < 2 by omega)
    have e1 : ρ' 1 = cap := ha 1 (show 1 < 2 by omega)
    simp [ren, e0, e1, capOff]
  · obtain ⟨rfl, rfl⟩ := hkey hb
    exact hg
/-! The document's -/
open Dec in
section
variable (side slot w : Int)
theorem kt_1 : callR Em2 8 68 [.int .i64 side, .int .i64 slot] ⟨[], 0, []⟩ [t, Dec.l, Dec.l, Dec.l] [] = some (.int .i64 (-1), ⟨[], 0, []⟩, [decide (side < 0) = true]) := by kernel_rfl
theorem kt_2 : callR Em2 8 68 [.int .i64 side, .int .i64 slot] ⟨[], 0, []⟩ [f, t, Dec.l, Dec.l] [] = some (.int .i64 (-1), ⟨[], 0, []⟩, [decide (side < 0) = false, decide (side > 1) = true]) := by kernel_rfl
theorem kt_3 : callR Em2 8 68 [.int .i64 side, .int .i64 slot] ⟨[], 0, []⟩ [f, f, t, Dec.l] [] = some (.int .i64 (-1), ⟨[], 0, []⟩, [decide (side < 0) = false, decide (side > 1) = false, decide (slot < 0) = true]) := by kernel_rfl
theorem kt_4 : callR Em2 8 68 [.int .i64 side, .int .i64 slot] ⟨[], 0, []⟩ [f, f, f, t] [] = some (.int .i64 (-1), ⟨[], 0, []⟩, [decide (side < 0) = false, decide (side > 1) = false, decide (slot < 0) = false, decide (slot > 11) = true]) := by kernel_rfl
theorem kt_5 : callR Em2 8 68 [.int .i64 side, .int .i64 slot] ⟨[], 0, []⟩ [f, f, f, f] [] = some (.int .i64 (w64 (w64 (12 * side) + slot)), ⟨[], 0, []⟩, [decide (side < 0) = false, decide (side > 1) = false, decide (slot < 0) = false, decide (slot > 11) = false]) := by kernel_rfl
end
theorem kt_C (side slot : Int) : CallC Tryz.prog 68 [.int .i64 side, .int .i64 slot] ⟨[], 0, []⟩ (.int .i64 (atI side slot)) ⟨[], 0, []⟩ := by
  unfold atI
  by_cases h1 : side < 0
  · rw [if_pos (.inl h1)]
    exact path Em2ok 8 (kt_1 side slot) (pcs_of ⟨decide_eq_true h1, trivial⟩) rfl
  by_cases h2 : side > 1
  · rw [if_pos (.inr (.inl h2))]
    exact path Em2ok 8 (kt_2 side slot) (pcs_of ⟨decide_eq_false h1, decide_eq_true h2, trivial⟩) rfl
  by_cases h3 : slot < 0
  · rw [if_pos (.inr (.inr (.inl h3)))]
    exact path Em2ok 8 (kt_3 side slot) (pcs_of ⟨decide_eq_false h1, decide_eq_false h2, decide_eq_true h3, trivial⟩) rfl
  by_cases h4 : slot > 11
  · rw [if_pos (.inr (.inr (.inr h4)))]
    exact path Em2ok 8 (kt_4 side slot) (pcs_of ⟨decide_eq_false h1, decide_eq_false h2, decide_eq_false h3, decide_eq_true h4, trivial⟩) rfl
  · rw [if_neg (by omega)]
    have h := path Em2ok 8 (kt_5 side slot) (pcs_of ⟨decide_eq_false h1, decide_eq_false h2, decide_eq_false h3, decide_eq_false h4, trivial⟩) rfl
    rw [w64_in (n := 12 * side) (by omega) (by omega), w64_in (by omega) (by omega)] at h
    exact h
theorem gKt_ok : ∀ args hp v hp' pc, gAt1 args hp = some (v, hp', pc) → ∀ ds, CallOk Tryz.prog 68 args hp ⟨v, hp', ds, pc⟩ := by
  intro args hp v hp' pc hg ds
  unfold gAt1 at hg
  split at hg
  · simp only [Option.some.injEq, Prod.mk.injEq] at hg
    obtain ⟨rfl, rfl, rfl⟩ := hg
    exact CallC.pure (enters (fn := Tryz.f68) (by kernel_rfl) (by kernel_rfl) rfl) (fun _ => kt_C _ _) rfl rfl hp ds
  · cases hg
noncomputable def Ek0 : Env := Ez.add 68 gAt1
theorem Ek0ok : EnvOk Ek0 := Ezok.add gKt_ok
open Dec in
section
variable (w side slot : Int)
theorem kh_t : callR Ek0 8 67 [.int .u64 w, .int .i64 side, .int .i64 slot] ⟨[], 0, []⟩ [t] [] = some (.bool (bitI w (atI side slot)), ⟨[], 0, []⟩, [decide (atI side slot ≥ 0) = true, Wd w ∧ atI side slot ≤ 63]) := by kernel_rfl
theorem kh_f : callR Ek0 8 67 [.int .u64 w, .int .i64 side, .int .i64 slot] ⟨[], 0, []⟩ [f] [] = some (.bool false, ⟨[], 0, []⟩, [decide (atI side slot ≥ 0) = false]) := by kernel_rfl
theorem kw_t : callR Ek0 8 30 [.int .u64 w, .int .i64 side, .int .i64 slot] ⟨[], 0, []⟩ [t] [] = some (.int .u64 w, ⟨[], 0, []⟩, [decide (atI side slot < 0) = true]) := by kernel_rfl
theorem kw_f : callR Ek0 8 30 [.int .u64 w, .int .i64 side, .int .i64 slot] ⟨[], 0, []⟩ [f] [] = some (.int .u64 (putI w (atI side slot) true), ⟨[], 0, []⟩, [decide (atI side slot < 0) = false, Wd w ∧ atI side slot ≤ 63]) := by kernel_rfl
end
theorem kh_C {w : Int} (hw : Wd w) (side slot : Int) : CallC Tryz.prog 67 [.int .u64 w, .int .i64 side, .int .i64 slot] ⟨[], 0, []⟩ (.bool (hasI w side slot)) ⟨[], 0, []⟩ := by
  unfold hasI
  by_cases h : 0 ≤ atI side slot
  · rw [decide_eq_true h, Bool.true_and]
    exact path Ek0ok 8 (kh_t w side slot) (pcs_of ⟨decide_eq_true h, ⟨hw, by have := (atI_le side slot).2; omega⟩, trivial⟩) rfl
  · rw [decide_eq_false h, Bool.false_and]
    exact path Ek0ok 8 (kh_f w side slot) (pcs_of ⟨decide_eq_false h, trivial⟩) rfl
theorem kw_C {w : Int} (hw : Wd w) (side slot : Int) : CallC Tryz.prog 30 [.int .u64 w, .int .i64 side, .int .i64 slot] ⟨[], 0, []⟩ (.int .u64 (withI w side slot)) ⟨[], 0, []⟩ := by
  unfold withI
  by_cases h : atI side slot < 0
  · rw [if_pos h]
    exact path Ek0ok 8 (kw_t w side slot) (pcs_of ⟨decide_eq_true h, trivial⟩) rfl
  · rw [if_neg h]
    exact path Ek0ok 8 (kw_f w side slot) (pcs_of ⟨decide_eq_false h, ⟨hw, by have := (atI_le side slot).2; omega⟩, trivial⟩) rfl
noncomputable def Em3 : Env := (Em2.add 30 (gW3 rWith)).add 67 (gW3 rHas)
theorem Em3ok : EnvOk Em3 := (Em2ok.add (gW3_ok (r := rWith) (enters (fn := Tryz.f30) (by kernel_rfl) (by kernel_rfl) rfl) (fun _ _ _ => rfl) (fun _ a b h => kw_C h a b))).add (gW3_ok (r := rHas) (enters (fn := Tryz.f67) (by kernel_rfl) (by kernel_rfl) rfl) (fun _ _ _ => rfl) (fun _ a b h => kh_C h a b))
noncomputable abbrev roF : Func := Tryz.f27
abbrev roL : List Nat := [1, 1, 0, 1, 0]
def roN (w k s i : Int) (ds : List Dec) : Fr := mkFr 27 [(0, .int .u64 w), (1, .int .i64 k), (2, .int .i64 s), (7, .slice none 0 0), (8, .int .i64 i)] [] 0 [] ds
def roR (w k s : Int) (n : Nat) (l : List Int) (i : Int) (ds : List Dec) : Fr := mkFr 27 [(0, .int .u64 w), (1, .int .i64 k), (2, .int .i64 s), (7, .slice (some ⟨0, 0, some 1⟩) n 0), (8, .int .i64 i)] [(0, ownI l)] 2 [] ds
def roNx : Fr := mkFr 27 [(7, .slice none 0 0)] [] 0 [] []
def roRx (n : Nat) (l : List Int) : Fr := mkFr 27 [(7, .slice (some ⟨0, 0, some 1⟩) n 0)] [(0, ownI l)] 2 [] []
def roNe : Fr := mkFr 27 [(6, .slice none 0 0)] [] 0 [] []
def roRe (n : Nat) (l : List Int) : Fr := mkFr 27 [(6, .slice (some ⟨0, 0, some 1⟩) n 0)] [(0, ownI l)] 2 [] []
abbrev live0 : List Nat := [0, 1, 2, 7, 8]
open Dec in
section
variable (w k s : Int) (i n : Nat) (l : List Int)
theorem ro_in : execR Em3 8 .normal [.code (bd roF [])] [] live0 0 [] ⟨[.int .u64 w, .int .i64 k, .int .i64 s] ++ List.replicate 24 undef, ⟨[], 0, []⟩, [], []⟩ = some (.normal, [.code (.loop (bd roF (roL ++ [0]))), .blk 0, .code (bd roF [1, 1, 1])], roN w k s 0 [], []) := by kernel_rfl
theorem ro_nh : run Em3 8 (bd roF (roL ++ [0])) [1, 2] live0 0 [] (roN w k s (i : Int) [t, t, t]) = some (.normal, roR w k s 1 [(i : Int)] (w64 ((i : Int) + 1)) [], [decide ((i : Int) < 12) = true, Wd w, hasI w k (i : Int) = true, ((i : Int) != s) = true, (0 + 1) * 8 ≤ 140737488355328, 0 + 1 ≤ 9223372036854775807]) := by kernel_rfl
theorem ro_nm : run Em3 8 (bd roF (roL ++ [0])) [] live0 0 [] (roN w k s (i : Int) [t, t, f]) = some (.normal, roN w k s (w64 ((i : Int) + 1)) [], [decide ((i : Int) < 12) = true, Wd w, hasI w k (i : Int) = true, ((i : Int) != s) = false]) := by kernel_rfl
theorem ro_nn : run Em3 8 (bd roF (roL ++ [0])) [] live0 0 [] (roN w k s (i : Int) [t, f, Dec.l]) = some (.normal, roN w k s (w64 ((i : Int) + 1)) [], [decide ((i : Int) < 12) = true, Wd w, hasI w k (i : Int) = false]) := by kernel_rfl
theorem ro_rh : run Em3 8 (bd roF (roL ++ [0])) [3, 4] live0 0 [] (roR w k s n l (i : Int) [t, t, t]) = some (.normal, roR w k s (addN n 1) (l ++ [(i : Int)]) (w64 ((i : Int) + 1)) [], [decide ((i : Int) < 12) = true, Wd w, hasI w k (i : Int) = true, ((i : Int) != s) = true, n = l.length, (n + 1) * 8 ≤ 140737488355328, n + 1 ≤ 9223372036854775807]) := by kernel_rfl
theorem ro_rm : run Em3 8 (bd roF (roL ++ [0])) [0, 1] live0 0 [] (roR w k s n l (i : Int) [t, t, f]) = some (.normal, roR w k s n l (w64 ((i : Int) + 1)) [], [decide ((i : Int) < 12) = true, Wd w, hasI w k (i : Int) = true, ((i : Int) != s) = false]) := by kernel_rfl
theorem ro_rn : run Em3 8 (bd roF (roL ++ [0])) [0, 1] live0 0 [] (roR w k s n l (i : Int) [t, f, Dec.l]) = some (.normal, roR w k s n l (w64 ((i : Int) + 1)) [], [decide ((i : Int) < 12) = true, Wd w, hasI w k (i : Int) = false]) := by kernel_rfl
theorem ro_ne : run Em3 8 (bd roF (roL ++ [0])) [] [7] 0 [] (roN w k s (i : Int) [f]) = some (.exit 0, roNx, [decide ((i : Int) < 12) = false]) := by kernel_rfl
theorem ro_re : run Em3 8 (bd roF (roL ++ [0])) [0, 1] [7] 0 [] (roR w k s n l (i : Int) [f]) = some (.exit 0, roRx n l, [decide ((i : Int) < 12) = false]) := by kernel_rfl
theorem ro_no : execR Em3 8 (.exit 0) [.blk 0, .code (bd roF [1, 1, 1])] [] [6] 0 [] roNx = some (.ret, [], roNe, []) := by kernel_rfl
theorem ro_ro : execR Em3 8 (.exit 0) [.blk 0, .code (bd roF [1, 1, 1])] [0, 1] [6] 0 [] (roRx n l) = some (.ret, [], roRe n l, []) := by kernel_rfl
end
theorem but_up_hit {w k s : Int} {i : Nat} (h : hasI w k (i : Int) = true) (hs : (i : Int) ≠ s) : butL s (upK w k (i + 1)) = butL s (upK w k i) ++ [(i : Int)] := by
  rw [upK_hit h, but_hit s _ hs]
theorem but_up_same {w k s : Int} {i : Nat} (h : hasI w k (i : Int) = true) (hs : (i : Int) = s) : butL s (upK w k (i + 1)) = butL s (upK w k i) := by
  subst hs
  rw [upK_hit h, but_miss]
theorem but_up_miss {w k s : Int} {i : Nat} (h : hasI w k (i : Int) = false) : butL s (upK w k (i + 1)) = butL s (upK w k i) := by
  rw [upK_miss h]
theorem but_up_len (w k s : Int) (i : Nat) : (butL s (upK w k i)).length ≤ i := Nat.le_trans (List.length_filter_le _ _) (upK_len w k i)
def roFr (w k s : Int) (i : Nat) (ds : List Dec) : Fr := match butL s (upK w k i) with
  | [] => roN w k s (i : Int) ds
  | x :: l => roR w k s (x :: l).length (x :: l) (i : Int) ds
theorem roFr_nil {w k s : Int} {i : Nat} (h : butL s (upK w k i) = []) (ds : List Dec) : roFr w k s i ds = roN w k s (i : Int) ds := by unfold roFr; rw [h]
theorem roFr_cons {w k s : Int} {i : Nat} {x : Int} {l : List Int} (h : butL s (upK w k i) = x :: l) (ds : List Dec) : roFr w k s i ds = roR w k s (x :: l).length (x :: l) (i : Int) ds := by unfold roFr; rw [h]
def roX (l : List Int) : Fr := match l with
  | [] => roNx
  | x :: r => roRx (x :: r).length (x :: r)
def roV (l : List Int) : Value := match l with
  | [] => .slice none 0 0
  | x :: r => .slice (some ⟨0, 0, some 1⟩) (x :: r).length 0
def roH (l : List Int) : Hp := match l with
  | [] => ⟨[], 0, []⟩
  | x :: r => ⟨[(0, ownI (x :: r))], 2, []⟩
theorem z0L (ns : List Nat) : ∀ k, k < 0 → ns.getD k 0 = k := fun k hk => absurd hk (Nat.not_lt_zero k)
open Dec in
theorem ro_C {w : Int} (hw : Wd w) (k s : Int) : CallC Tryz.prog 27 [.int .u64 w, .int .i64 k, .int .i64 s] ⟨[], 0, []⟩ (roV (othL w k s)) (roH (othL w k s)) := by
  refine CallC.of_body (E := Em3) (ds := []) (fn := roF) 24 (by kernel_rfl) (by kernel_rfl) (by kernel_rfl) (by kernel_rfl) ?_
  refine KC.of_exec Em3ok (ro_in w k s) (pcs_of trivial) (Nat.zero_le _) (z0L _) ?_
  refine KC.loop (m0 := 0) (fun i : Nat => roFr w k s i []) (fun i => i ≤ 12) (fun i => 12 - i) (fun ex fr => ex = .exit 0 ∧ fr = roX (othL w k s)) (fun i hi => ?_) ?_ 0 (Nat.zero_le _)
  · have hlen := but_up_len w k s i
    have hw64 : i < 12 → w64 ((i : Int) + 1) = ((i + 1 : Nat) : Int) := fun h => w64_succ i (by omega)
    by_cases hlt : i < 12
    · have hd : decide ((i : Int) < 12) = true := decide_eq_true (by omega)
      cases hh : hasI w k (i : Int) with
      | false =>
        cases hl : butL s (upK w k i) with
        | nil => rw [roFr_nil hl]; exact CodeC.of_run (fr := roN w k s (i : Int) [t, f, Dec.l]) Em3ok (ro_nn w k s i) (pcs_of ⟨hd, hw, hh, trivial⟩) (Nat.zero_le _) (z0L _) (.inl ⟨rfl, i + 1, by rw [roFr_nil ((but_up_miss hh).trans hl), hw64 hlt], by omega, by omega⟩)
        | cons x r => rw [roFr_cons hl]; exact CodeC.of_run (fr := roR w k s (x :: r).length (x :: r) (i : Int) [t, f, Dec.l]) Em3ok (ro_rn w k s i _ _) (pcs_of ⟨hd, hw, hh, trivial⟩) (Nat.zero_le _) (z0L _) (.inl ⟨rfl, i + 1, by rw [roFr_cons ((but_up_miss hh).trans hl), hw64 hlt], by omega, by omega⟩)
      | true =>
        by_cases hs : (i : Int) = s
        · have hb : ((i : Int) != s) = false := by rw [hs]; simp
          cases hl : butL s (upK w k i) with
          | nil => rw [roFr_nil hl]; exact CodeC.of_run (fr := roN w k s (i : Int) [t, t, f]) Em3ok (ro_nm w k s i) (pcs_of ⟨hd, hw, hh, hb, trivial⟩) (Nat.zero_le _) (z0L _) (.inl ⟨rfl, i + 1, by rw [roFr_nil ((but_up_same hh hs).trans hl), hw64 hlt], by omega, by omega⟩)
          | cons x r => rw [roFr_cons hl]; exact CodeC.of_run (fr := roR w k s (x :: r).length (x :: r) (i : Int) [t, t, f]) Em3ok (ro_rm w k s i _ _) (pcs_of ⟨hd, hw, hh, hb, trivial⟩) (Nat.zero_le _) (z0L _) (.inl ⟨rfl, i + 1, by rw [roFr_cons ((but_up_same hh hs).trans hl), hw64 hlt], by omega, by omega⟩)
        · have hb : ((i : Int) != s) = true := bne_iff_ne.2 hs
          cases hl : butL s (upK w k i) with
          | nil => rw [roFr_nil hl]; exact CodeC.of_run (fr := roN w k s (i : Int) [t, t, t]) Em3ok (ro_nh w k s i) (pcs_of ⟨hd, hw, hh, hb, by omega, by omega, trivial⟩) (Nat.zero_le _) (z0L _) (.inl ⟨rfl, i + 1, by rw [roFr_cons (x := (i : Int)) (l := []) (by rw [but_up_hit hh hs, hl]; rfl), hw64 hlt]; rfl, by omega, by omega⟩)
          | cons x r =>
            rw [roFr_cons hl]
            rw [hl] at hlen
            exact CodeC.of_run (fr := roR w k s (x :: r).length (x :: r) (i : Int) [t, t, t]) Em3ok (ro_rh w k s i _ _) (pcs_of ⟨hd, hw, hh, hb, rfl, by omega, by omega, trivial⟩) (Nat.zero_le _) (z0L _) (.inl ⟨rfl, i + 1, by
              rw [roFr_cons (x := x) (l := r ++ [(i : Int)]) (by rw [but_up_hit hh hs, hl]; rfl), hw64 hlt]
              show roR w k s (addN (x :: r).length 1) _ _ _ = roR w k s (x :: (r ++ [(i : Int)])).length (x :: (r ++ [(i : Int)])) _ _
              rw [addN_eq]
              congr 1
              simp, by omega, by omega⟩)
    · obtain rfl : i = 12 := by omega
      have e : butL s (upK w k 12) = othL w k s := rfl
      rw [← e]
      cases hl : butL s (upK w k 12) with
      | nil => rw [roFr_nil hl]; exact CodeC.of_run (fr := roN w k s ((12 : Nat) : Int) [f]) Em3ok (ro_ne w k s 12) (pcs_of ⟨rfl, trivial⟩) (Nat.zero_le _) (z0L _) (.inr ⟨by simp, rfl, rfl⟩)
      | cons x r => rw [roFr_cons hl]; exact CodeC.of_run (fr := roR w k s (x :: r).length (x :: r) ((12 : Nat) : Int) [f]) Em3ok (ro_re w k s 12 _ _) (pcs_of ⟨rfl, trivial⟩) (Nat.zero_le _) (z0L _) (.inr ⟨by simp, rfl, rfl⟩)
  · rintro ex fr ⟨rfl, rfl⟩
    cases othL w k s with
    | nil => exact KC.of_exec Em3ok ro_no (pcs_of trivial) (Nat.zero_le _) (z0L _) (KC.done ⟨by simp, [.slice none 0 0], [], [], 0, by kernel_rfl, by simp, by kernel_rfl, rfl, z0L _⟩)
    | cons x r => exact KC.of_exec Em3ok (ro_ro _ _) (pcs_of trivial) (Nat.zero_le _) (z0L _) (KC.done ⟨by simp, [.slice (some ⟨0, 0, some 1⟩) (x :: r).length 0], [], [0, 1], 2, by kernel_rfl, by simp, by kernel_rfl, rfl, z0L _⟩)
/-! As contracts: where there are none (0), and where there are some (1) -/
def gO0 (args : List Value) (hp : Hp) : Option (Value × Hp × List Prop) :=
  match args with
  | [.int .u64 w, .int .i64 k, .int .i64 s] => some (.slice none 0 0, hp, [Wd w ∧ othL w k s = []])
  | _ => none
def gO1 (args : List Value) (hp : Hp) : Option (Value × Hp × List Prop) :=
  match args with
  | [.int .u64 w, .int .i64 k, .int .i64 s] => some (.slice (some ⟨hp.next, 0, some (hp.next + 1)⟩) (othL w k s).length 0, ⟨(hp.next, .own (.ints .i64 (othL w k s) intT) (hp.next + 1)) :: delB [hp.next] hp.blks, hp.next + 2, hp.log⟩, [Wd w ∧ othL w k s ≠ []])
  | _ => none
theorem gO0_ok {f : FuncId} (hent : Enters Tryz.prog f) (h : ∀ {w : Int}, Wd w → ∀ k s, othL w k s = [] → CallC Tryz.prog f [.int .u64 w, .int .i64 k, .int .i64 s] ⟨[], 0, []⟩ (.slice none 0 0) ⟨[], 0, []⟩) : ∀ args hp v hp' pc, gO0 args hp = some (v, hp', pc) → ∀ ds, CallOk Tryz.prog f args hp ⟨v, hp', ds, pc⟩ := by
  intro args hp v hp' pc hg ds
  unfold gO0 at hg
  split at hg
  · simp only [Option.some.injEq, Prod.mk.injEq] at hg
    obtain ⟨rfl, rfl, rfl⟩ := hg
    exact CallC.pure hent (fun q => h (hd1 q).1 _ _ (hd1 q).2) rfl rfl hp ds
  · cases hg
theorem gO1_ok {f : FuncId} (hent : Enters Tryz.prog f) (h : ∀ {w : Int}, Wd w → ∀ k s, othL w k s ≠ [] → CallC Tryz.prog f [.int .u64 w, .int .i64 k, .int .i64 s] ⟨[], 0, []⟩ (.slice (some ⟨0, 0, some 1⟩) (othL w k s).length 0) ⟨[(0, ownI (othL w k s))], 2, []⟩) : ∀ args hp v hp' pc, gO1 args hp = some (v, hp', pc) → ∀ ds, CallOk Tryz.prog f args hp ⟨v, hp', ds, pc⟩ := by
  intro args hp v hp' pc hg ds
  unfold gO1 at hg
  split at hg
  · simp only [Option.some.injEq, Prod.mk.injEq] at hg
    obtain ⟨rfl, rfl, rfl⟩ := hg
    exact CallC.fresh hent (fun q => h (hd1 q).1 _ _ (hd1 q).2) rfl (fun _ => rfl) hp ds
  · cases hg
theorem ro_C0 {w : Int} (hw : Wd w) (k s : Int) (h : othL w k s = []) : CallC Tryz.prog 27 [.int .u64 w, .int .i64 k, .int .i64 s] ⟨[], 0, []⟩ (.slice none 0 0) ⟨[], 0, []⟩ := by
  have := ro_C hw k s
  rw [h] at this
  exact this
theorem ro_C1 {w : Int} (hw : Wd w) (k s : Int) (h : othL w k s ≠ []) : CallC Tryz.prog 27 [.int .u64 w, .int .i64 k, .int .i64 s] ⟨[], 0, []⟩ (.slice (some ⟨0, 0, some 1⟩) (othL w k s).length 0) ⟨[(0, ownI (othL w k s))], 2, []⟩ := by
  have := ro_C hw k s
  cases hl : othL w k s with
  | nil => exact absurd hl h
  | cons x r =>
    rw [hl] at this
    exact this
theorem mOent : Enters Tryz.prog 135 := enters (fn := Tryz.f135) (by kernel_rfl) (by kernel_rfl) rfl
theorem rOent : Enters Tryz.prog 27 := enters (fn := Tryz.f27) (by kernel_rfl) (by kernel_rfl) rfl
noncomputable def Em4 : Env := (Em3.add 135 gO0).add 27 gO0
noncomputable def Em5 : Env := (Em3.add 135 gO1).add 27 gO1
theorem Em4ok : EnvOk Em4 := (Em3ok.add (gO0_ok mOent fun h => oth_C0 h)).add (gO0_ok rOent fun h => ro_C0 h)
theorem Em5ok : EnvOk Em5 := (Em3ok.add (gO1_ok mOent fun h => oth_C1 h)).add (gO1_ok rOent fun h => ro_C1 h)
end Go.Proofs.YtocfhiafegkfkaaGreat.Ct
