/- A beginning's functions, as contracts. -/
import Derived.Test.YtjkohcdgjlaobaaCtOpenB
namespace Go.Proofs.Ytjkohcdgjlaobaa.Ct
open Go Go.Proofs Go.Proofs.Ytjkohcdgjlaobaa.Ev
open Go.RowKit

def Op.good (o : Op) : Prop := o.ph ≤ 7 ∧ o.ap ≤ 5 ∧ Wd o.s ∧ Wd o.av ∧ Wd o.aw ∧ Wd o.seq ∧ (o.ph = 3 → 1 ≤ o.ap ∧ o.ap ≤ 4)
def opGood (o : Op) (m : Mm) : Prop := m.ok ∧ WfW m.w ∧ o.good
theorem opStep_nm (k : Nat) : ∀ n ∈ nm (opStep k), n < 3 := by
  unfold opStep
  split <;> simp [bndV, nm, nmA, nmL]
theorem hpStep_nm (k : Nat) : nm (hpStep k) = [] := by
  unfold hpStep
  split <;> simp [nm, nmA, nmL]
theorem aidV_nm (k : Nat) : ∀ n ∈ nm (aidV k), n < 3 := by
  cases k <;> simp [aidV, nm]
theorem opF_nm {x : Hid} (i : Nat) (hb : HB) (h : opF i x = some hb) : allLt 3 hb.nm = true := by
  refine allLt_of fun n hn => ?_
  match i, h with
  | 0, h =>
    simp only [opF, opB, Option.some.injEq] at h
    subst h
    simp only [HB.nm, nmL, nm, nmA, List.append_nil, List.nil_append, List.mem_append, List.mem_cons, List.not_mem_nil, or_false] at hn
    rcases hn with hn | hn | hn
    · exact opStep_nm _ n hn
    · omega
    · exact aidV_nm _ n hn
  | 1, h =>
    simp only [opF, opB, Option.some.injEq] at h
    subst h
    simp [HB.nm, nmL, nm] at hn
  | 2, h =>
    simp only [opF, opB] at h
    generalize (Op.dec x) = o at h
    cases hk : o.ap with
    | zero => rw [hk] at h; cases h
    | succ k =>
      rw [hk] at h
      simp only [hpB, Option.some.injEq] at h
      subst h
      simp [HB.nm, nmL, nm, hpStep_nm] at hn
  | k + 3, h => simp [opF, opB] at h
theorem opF_okX (x : Hid) (m : Mm) : okX (hidHp opF 3 x m).blks = true := okX_opt (ns := rng 0 3) (fun i hb h => opF_nm i hb h) rfl _ _
theorem opF_okX0 (x : Hid) : okX (hidHp0 opF 3 x).blks = true := by
  have := okX_opt (F := opF) (ns := rng 0 3) (h := x) (fun i hb h => opF_nm i hb h) (l' := []) rfl (rng 0 3) 0
  rw [List.append_nil] at this
  exact this
theorem z5x : ∀ k, k < 5 → ([0, 1, 2, 3, 4] : List Nat).getD k 0 = k := fun k hk => by
  match k, hk with
  | 0, _ | 1, _ | 2, _ | 3, _ | 4, _ => rfl
def opOut (o : Op) (m : Mm) (o' : Op) (m' : Mm) : Prop := CallC Try.prog opStepF (hidA 3 []) (hidHp opF 3 o.enc m) (.tuple ⟨[]⟩) (hidOut opF 3 o'.enc m')
theorem op_out {o o' : Op} {m m' : Mm} {ds : List Dec} {pc : List Prop} (h : callR E46 12 opStepF (hidA 3 []) (hidHp opF 3 o.enc m).xp ds [0, 1, 2, 3, 4] = some (.tuple ⟨[]⟩, (hidHp opF 3 o'.enc m').xp, pc)) (hpc : ∀ p ∈ pc, p) : opOut o m o' m' :=
  hid_out (by omega) rfl (CallC.xp (CallC.of_call E46ok h hpc rfl z5x) hid_keysIn hid_keysIn (opF_okX _ _) (opF_okX _ _))
theorem opF_okXo (x : Hid) (m : Mm) : okX (hidOut opF 3 x m).blks = true := okX_opt (ns := hidN 3) (fun i hb h => opF_nm i hb h) rfl _ _
theorem z5y : ∀ k, k < 5 → ([0, 1, 2, 3, 4, 6] : List Nat).getD k 0 = k := fun k hk => by
  match k, hk with
  | 0, _ | 1, _ | 2, _ | 3, _ | 4, _ => rfl
theorem z5z : ∀ k, k < 5 → ([0, 1, 2, 3, 4, 1, 5] : List Nat).getD k 0 = k := fun k hk => by
  match k, hk with
  | 0, _ | 1, _ | 2, _ | 3, _ | 4, _ => rfl
open Dec in
theorem op_tal {slot s seq aw av e h n : Int} {ap : Nat} {m : Mm} (hap : ap ≤ 5) (hpc : ∀ p ∈ [m.ok, decide (pendB (vTl m) ≥ 0) = true, decide (pendB (vTl m) ≥ 0) = true], p) : opOut ⟨2, ap, slot, s, seq, aw, av, e, h, n⟩ m ⟨3, 1, slot, s, seqB (vTl m), vTl m, 0, e, h, n⟩ (mLd m 1 0) := by
  have h1 := CallC.of_call E46ok (o_tal_t slot s seq aw av e h n m hap) hpc rfl z5y
  refine CallC.xp (hp1 := hidOut opF 3 (Op.enc ⟨3, 1, slot, s, seqB (vTl m), vTl m, 0, e, h, n⟩) (mLd m 1 0)) (CallC.ren h1 [0, 1, 2, 3, 4, 1, 5] rfl ?_ ?_ ?_ ?_ z5z) hid_keysIn (by kernel_rfl) (opF_okX _ _) (opF_okXo _ _)
  · kernel_rfl
  · kernel_rfl
  · match ap, hap with
    | 0, _ => exact ⟨rfl, rfl, rfl, rfl, rfl, trivial⟩
    | k + 1, _ => exact ⟨rfl, rfl, rfl, rfl, rfl, trivial⟩
  · kernel_rfl
open Dec in
theorem opStep_C (o : Op) (m : Mm) (hg : opGood o m) : opOut o m (opSt o m) (opMe o m) := by
  obtain ⟨ho, hw, h7, hap, hs, hav, haw, hsq, h3⟩ := hg
  obtain ⟨ph, ap, slot, s, seq, aw, av, e, h, n⟩ := o
  simp only at h7 hap hs hav haw hsq h3
  have hV : ∀ k, Wd (vSt m k) := fun k => hw.getW _
  match ph, h7, h3 with
  | 0, _, _ =>
    by_cases h1 : (nuI (vSt m slot) 27 3 != 0) = true
    · have hf : freeI (vSt m slot) m.c.g = false := by
        unfold freeI
        have : (nuI (vSt m slot) 27 3 == 0) = false := beq_eq_false_iff_ne.2 (bne_iff_ne.1 h1)
        rw [this]; rfl
      by_cases h2 : decide (w64 (slot + 1) ≥ m.c.s) = true
      · have e1 : opSt ⟨0, ap, slot, s, seq, aw, av, e, h, n⟩ m = ⟨6, ap, w64 (slot + 1), vSt m slot, seq, aw, av, 6, h, n⟩ := by simp only [opSt, hf, opGo, of_decide_eq_true h2, if_true]; rfl
        rw [e1]
        exact op_out (o_look_at slot s seq aw av e h n m hap) (pcs_of ⟨ho, hV _, h1, h2, trivial⟩)
      · have h2 := eq_false_of_ne_true h2
        have e1 : opSt ⟨0, ap, slot, s, seq, aw, av, e, h, n⟩ m = ⟨0, ap, w64 (slot + 1), vSt m slot, seq, aw, av, e, h, n⟩ := by simp only [opSt, hf, opGo, of_decide_eq_false h2, if_false]; rfl
        rw [e1]
        exact op_out (o_look_af slot s seq aw av e h n m hap) (pcs_of ⟨ho, hV _, h1, h2, trivial⟩)
    · have h1 := eq_false_of_ne_true h1
      have h1' : (nuI (vSt m slot) 27 3 == 0) = true := beq_iff_eq.2 (Classical.byContradiction fun x => by rw [bne_iff_ne.2 x] at h1; cases h1)
      by_cases h4 : decide (nuI (vSt m slot) 30 32 > m.c.g) = true
      · have hf : freeI (vSt m slot) m.c.g = false := by unfold freeI; rw [h1', h4]; rfl
        by_cases h2 : decide (w64 (slot + 1) ≥ m.c.s) = true
        · have e1 : opSt ⟨0, ap, slot, s, seq, aw, av, e, h, n⟩ m = ⟨6, ap, w64 (slot + 1), vSt m slot, seq, aw, av, 6, h, n⟩ := by simp only [opSt, hf, opGo, of_decide_eq_true h2, if_true]; rfl
          rw [e1]
          exact op_out (o_look_bt slot s seq aw av e h n m hap) (pcs_of ⟨ho, hV _, h1, h4, h2, trivial⟩)
        · have h2 := eq_false_of_ne_true h2
          have e1 : opSt ⟨0, ap, slot, s, seq, aw, av, e, h, n⟩ m = ⟨0, ap, w64 (slot + 1), vSt m slot, seq, aw, av, e, h, n⟩ := by simp only [opSt, hf, opGo, of_decide_eq_false h2, if_false]; rfl
          rw [e1]
          exact op_out (o_look_bf slot s seq aw av e h n m hap) (pcs_of ⟨ho, hV _, h1, h4, h2, trivial⟩)
      · have h4 := eq_false_of_ne_true h4
        have hf : freeI (vSt m slot) m.c.g = true := by unfold freeI; rw [h1', h4]; rfl
        have e1 : opSt ⟨0, ap, slot, s, seq, aw, av, e, h, n⟩ m = ⟨1, ap, slot, vSt m slot, seq, aw, av, e, h, n⟩ := by simp only [opSt, hf, if_true]
        rw [e1]
        exact op_out (o_look_f slot s seq aw av e h n m hap) (pcs_of ⟨ho, hV _, h1, h4, trivial⟩)
  | 1, _, _ =>
    cases hd : dnS m 4 slot s with
    | true =>
      have e1 : opSt ⟨1, ap, slot, s, seq, aw, av, e, h, n⟩ m = ⟨2, ap, slot, s, seq, aw, av, e, h, n⟩ := by simp only [opSt, hd, if_true]
      rw [e1]
      exact op_out (o_take slot s seq aw av e h n m hap) (pcs_of ⟨hs, ho, by rw [hd]; rfl, trivial⟩)
    | false =>
      by_cases h2 : decide (w64 (slot + 1) ≥ m.c.s) = true
      · have e1 : opSt ⟨1, ap, slot, s, seq, aw, av, e, h, n⟩ m = ⟨6, ap, w64 (slot + 1), s, seq, aw, av, 6, h, n⟩ := by simp only [opSt, hd, opGo, of_decide_eq_true h2, if_true]; rfl
        rw [e1]
        exact op_out (o_take_t slot s seq aw av e h n m hap) (pcs_of ⟨hs, ho, by rw [hd]; rfl, h2, trivial⟩)
      · have h2 := eq_false_of_ne_true h2
        have e1 : opSt ⟨1, ap, slot, s, seq, aw, av, e, h, n⟩ m = ⟨0, ap, w64 (slot + 1), s, seq, aw, av, e, h, n⟩ := by simp only [opSt, hd, opGo, of_decide_eq_false h2, if_false]; rfl
        rw [e1]
        exact op_out (o_take_f slot s seq aw av e h n m hap) (pcs_of ⟨hs, ho, by rw [hd]; rfl, h2, trivial⟩)
  | 2, _, _ =>
    by_cases hp : decide (pendB (vTl m) ≥ 0) = true
    · have e1 : opSt ⟨2, ap, slot, s, seq, aw, av, e, h, n⟩ m = ⟨3, 1, slot, s, seqB (vTl m), vTl m, 0, e, h, n⟩ := by simp only [opSt, hp, if_true]
      have hq : ∀ p ∈ [m.ok, decide (pendB (vTl m) ≥ 0) = true, decide (pendB (vTl m) ≥ 0) = true], p := pcs_of ⟨ho, hp, hp, trivial⟩
      rw [e1]
      exact op_tal hap hq
    · have hp := eq_false_of_ne_true hp
      have e1 : opSt ⟨2, ap, slot, s, seq, aw, av, e, h, n⟩ m = ⟨4, ap, slot, s, seqB (vTl m), aw, av, e, h, n⟩ := by simp only [opSt, hp]; rfl
      rw [e1]
      exact op_out (o_tal_f slot s seq aw av e h n m hap) (pcs_of ⟨ho, hp, trivial⟩)
  | 3, _, h3 =>
    obtain ⟨h31, h34⟩ := h3 rfl
    match ap, h31, h34 with
    | 1, _, _ =>
      have e1 : opSt ⟨3, 1, slot, s, seq, aw, av, e, h, n⟩ m = ⟨3, 2, slot, s, seq, aw, av, e, h, n⟩ := rfl
      have e2 : opMe ⟨3, 1, slot, s, seq, aw, av, e, h, n⟩ m = mSw m 6 (pendB aw) 0 (seqB aw) := rfl
      rw [e1, e2]
      exact op_out (o_h1 slot s seq aw av e h n m) (pcs_of ⟨ho, trivial⟩)
    | 2, _, _ =>
      cases hd : (nuI (vSt m (pendB aw)) 27 3 == 3) with
      | true =>
        have e1 : opSt ⟨3, 2, slot, s, seq, aw, av, e, h, n⟩ m = ⟨3, 3, slot, s, seq, aw, vSt m (pendB aw), e, h, n⟩ := by simp only [opSt, opHelp, hd, if_true]
        rw [e1]
        exact op_out (o_h2t slot s seq aw av e h n m) (pcs_of ⟨ho, hV _, hd, trivial⟩)
      | false =>
        have e1 : opSt ⟨3, 2, slot, s, seq, aw, av, e, h, n⟩ m = ⟨3, 4, slot, s, seq, aw, vSt m (pendB aw), e, h, n⟩ := by simp only [opSt, opHelp, hd]; rfl
        rw [e1]
        exact op_out (o_h2f slot s seq aw av e h n m) (pcs_of ⟨ho, hV _, hd, trivial⟩)
    | 3, _, _ =>
      cases hd : dnS m 4 (pendB aw) av with
      | true =>
        have e1 : opSt ⟨3, 3, slot, s, seq, aw, av, e, h, n⟩ m = ⟨3, 4, slot, s, seq, aw, av, e, h, n⟩ := by simp only [opSt, opHelp, hd, if_true]
        rw [e1]
        exact op_out (o_h3t slot s seq aw av e h n m) (pcs_of ⟨hav, hav, ho, hd, trivial⟩)
      | false =>
        have e1 : opSt ⟨3, 3, slot, s, seq, aw, av, e, h, n⟩ m = ⟨3, 2, slot, s, seq, aw, av, e, h, n⟩ := by simp only [opSt, opHelp, hd]; rfl
        rw [e1]
        exact op_out (o_h3f slot s seq aw av e h n m) (pcs_of ⟨hav, hav, ho, hd, trivial⟩)
    | 4, _, _ =>
      have e1 : opSt ⟨3, 4, slot, s, seq, aw, av, e, h, n⟩ m = ⟨2, 5, slot, s, seq, aw, av, e, h, n⟩ := rfl
      have e2 : opMe ⟨3, 4, slot, s, seq, aw, av, e, h, n⟩ m = mSw m 1 0 aw (setB aw) := rfl
      rw [e1, e2]
      exact op_out (o_h4 slot s seq aw av e h n m) (pcs_of ⟨ho, trivial⟩)
  | 4, _, _ => exact op_out (o_note slot s seq aw av e h n m hap) (pcs_of ⟨ho, trivial⟩)
  | 5, _, _ => exact op_out (o_start slot s seq aw av e h n m hap) (pcs_of ⟨hs, ho, hs, trivial⟩)
  | 6, _, _ => exact op_out (o_fin6 slot s seq aw av e h n m hap) (pcs_of trivial)
  | 7, _, _ => exact op_out (o_fin7 slot s seq aw av e h n m hap) (pcs_of trivial)
abbrev Op.dn (o : Op) : Bool := decide (6 ≤ o.ph)
def Op.ans (o : Op) : Value := .agg ⟨[.int .i64 o.e, .int .u64 o.h, .int .u64 o.n]⟩
theorem z3y : ∀ k, k < 3 → ([0, 1, 2] : List Nat).getD k 0 = k := fun k hk => by
  match k, hk with
  | 0, _ | 1, _ | 2, _ => rfl
theorem op_ask {f : FuncId} {o : Op} {v : Value} (h : callR E46 12 f [pt0] (hidHp0 opF 3 o.enc).xp [] [0, 1, 2] = some (v, (hidHp0 opF 3 o.enc).xp, [])) (hv : isDead v = false) : CallC Try.prog f [pt0] (hidHp0 opF 3 o.enc) v (hidHp0 opF 3 o.enc) :=
  CallC.xp (CallC.of_call E46ok h (pcs_of trivial) hv z3y) hid0_keysIn hid0_keysIn (opF_okX0 _) (opF_okX0 _)
theorem opDone_C (o : Op) (hg : o.good) : CallC Try.prog 18 [pt0] (hidHp0 opF 3 o.enc) (.bool o.dn) (hidHp0 opF 3 o.enc) := by
  obtain ⟨h7, hap, _⟩ := hg
  obtain ⟨ph, ap, slot, s, seq, aw, av, e, h, n⟩ := o
  simp only at h7 hap
  match ph, h7 with
  | 0, _ => exact op_ask (o_dn0 slot s seq aw av e h n hap) rfl
  | 1, _ => exact op_ask (o_dn1 slot s seq aw av e h n hap) rfl
  | 2, _ => exact op_ask (o_dn2 slot s seq aw av e h n hap) rfl
  | 3, _ => exact op_ask (o_dn3 slot s seq aw av e h n hap) rfl
  | 4, _ => exact op_ask (o_dn4 slot s seq aw av e h n hap) rfl
  | 5, _ => exact op_ask (o_dn5 slot s seq aw av e h n hap) rfl
  | 6, _ => exact op_ask (o_dn6 slot s seq aw av e h n hap) rfl
  | 7, _ => exact op_ask (o_dn7 slot s seq aw av e h n hap) rfl
theorem opAns_C (o : Op) (hg : o.good) : CallC Try.prog 19 [pt0] (hidHp0 opF 3 o.enc) o.ans (hidHp0 opF 3 o.enc) := by
  obtain ⟨h7, hap, _⟩ := hg
  obtain ⟨ph, ap, slot, s, seq, aw, av, e, h, n⟩ := o
  simp only at h7 hap
  match ph, h7 with
  | 0, _ => exact op_ask (o_an0 slot s seq aw av e h n hap) rfl
  | 1, _ => exact op_ask (o_an1 slot s seq aw av e h n hap) rfl
  | 2, _ => exact op_ask (o_an2 slot s seq aw av e h n hap) rfl
  | 3, _ => exact op_ask (o_an3 slot s seq aw av e h n hap) rfl
  | 4, _ => exact op_ask (o_an4 slot s seq aw av e h n hap) rfl
  | 5, _ => exact op_ask (o_an5 slot s seq aw av e h n hap) rfl
  | 6, _ => exact op_ask (o_an6 slot s seq aw av e h n hap) rfl
  | 7, _ => exact op_ask (o_an7 slot s seq aw av e h n hap) rfl
/-- That what is hidden is a beginning. -/
def isOp (x : Hid) : Prop := x = (Op.dec x).enc
theorem isOp_enc (o : Op) : isOp o.enc := rfl
abbrev gOs : List Value → Hp → Option (Value × Hp × List Prop) := gHid opF 3 (fun _ _ _ => .tuple ⟨[]⟩) (fun x m _ => (opSt (.dec x) m).enc) (fun x m _ => opMe (.dec x) m) (fun x m rest => rest = [] ∧ isOp x ∧ opGood (.dec x) m)
abbrev gOdn : List Value → Hp → Option (Value × Hp × List Prop) := gAsk opF 3 (fun x _ => .bool (Op.dec x).dn) (fun x rest => rest = [] ∧ isOp x ∧ (Op.dec x).good)
abbrev gOan : List Value → Hp → Option (Value × Hp × List Prop) := gAsk opF 3 (fun x _ => (Op.dec x).ans) (fun x rest => rest = [] ∧ isOp x ∧ (Op.dec x).good)
abbrev gOnw : List Value → Hp → Option (Value × Hp × List Prop) := gMade opF 3 (fun _ => op0.enc) (fun args => args = [])
theorem gOs_ok : ∀ args hp v hp' pc, gOs args hp = some (v, hp', pc) → ∀ ds, CallOk Try.prog opStepF args hp ⟨v, hp', ds, pc⟩ :=
  gHid_ok (enters (fn := Try.f23) (by kernel_rfl) (by kernel_rfl) rfl) (fun _ _ _ => rfl) fun x m rest h => by
    obtain ⟨rfl, h1, h2⟩ := h
    have := opStep_C _ _ h2
    unfold opOut at this
    rw [← h1] at this
    exact this
noncomputable def E47 : Env := (((E46.add opStepF gOs).add 18 gOdn).add 19 gOan).add 11 gOnw
theorem E47ok : EnvOk E47 :=
  (((E46ok.add gOs_ok).add (gAsk_ok (enters (fn := Try.f18) (by kernel_rfl) (by kernel_rfl) rfl) (fun _ _ => rfl) fun x rest h => by
    obtain ⟨rfl, h1, h2⟩ := h
    have := opDone_C _ h2
    rw [← h1] at this
    exact this)).add (gAsk_ok (enters (fn := Try.f19) (by kernel_rfl) (by kernel_rfl) rfl) (fun _ _ => rfl) fun x rest h => by
    obtain ⟨rfl, h1, h2⟩ := h
    have := opAns_C _ h2
    rw [← h1] at this
    exact this)).add (gMade_ok (enters (fn := Try.f11) (by kernel_rfl) (by kernel_rfl) rfl) fun args h => by
    obtain rfl := h
    exact CallC.xp (hp := ⟨[], 0, []⟩) (CallC.of_call E46ok o_new (pcs_of trivial) rfl (fun k hk => absurd hk (Nat.not_lt_zero k))) rfl hid0_keysIn rfl (opF_okX0 _))
end Go.Proofs.Ytjkohcdgjlaobaa.Ct
