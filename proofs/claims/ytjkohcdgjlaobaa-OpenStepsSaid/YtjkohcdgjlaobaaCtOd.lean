/- The document's beginning is the program's. -/
import Derived.Test.YtjkohcdgjlaobaaCtOdB
namespace Go.Proofs.Ytjkohcdgjlaobaa.Ct
open Go Go.Proofs Go.Proofs.Ytjkohcdgjlaobaa.Ev
open Go.RowKit

def odNx : Nat → Int
  | 1 => 1
  | 2 => 2
  | 3 => 3
  | 4 => 4
  | 5 => 5
  | 7 => 5
  | _ => 0
def odAn : Nat → Int
  | 2 => 1
  | 3 => 2
  | 4 => 3
  | 5 => 3
  | _ => 0
def odOf (o : Op) : Od := ⟨o.slot, odNx o.ph, o.s, o.seq, o.aw, odAn o.ap, o.av, Nat.beq o.ap 5, o.e, o.h, o.n, Nat.ble 6 o.ph⟩
def opOf (d : Od) : Op := ⟨if d.dn = true then (if d.e = 6 then 6 else 7) else d.nx.toNat, if d.ad = true then 5 else if d.anx = 0 then (if d.nx = 3 then 1 else 0) else (d.anx + 1).toNat, d.slot, d.s, d.seq, d.aw, d.av, d.e, d.h, d.n⟩
/-- What is told, and where its help is. -/
def Op.told (o : Op) : Prop := (o.ph ≤ 5 → o.e = 0 ∧ o.h = 0 ∧ o.n = 0) ∧ (o.ph = 6 → o.e = 6 ∧ o.h = 0 ∧ o.n = 0) ∧ (o.ph = 7 → o.e = 0) ∧ (o.ap = 1 → o.ph = 3)
theorem opOf_odOf {o : Op} (hg : o.good) (ht : o.told) : opOf (odOf o) = o := by
  obtain ⟨h7, hap, _, _, _, _, h3⟩ := hg
  obtain ⟨t1, t2, t3, t4⟩ := ht
  obtain ⟨ph, ap, slot, s, seq, aw, av, e, h, n⟩ := o
  simp only at h7 hap h3 t1 t2 t3 t4
  have e1 : (opOf (odOf ⟨ph, ap, slot, s, seq, aw, av, e, h, n⟩)).ph = ph := by
    match ph, h7 with
    | 0, _ | 1, _ | 2, _ | 3, _ | 4, _ | 5, _ => rfl
    | 6, _ =>
      show (if (true : Bool) = true then (if e = 6 then 6 else 7) else (odNx 6).toNat) = 6
      rw [if_pos rfl, if_pos (t2 rfl).1]
    | 7, _ =>
      show (if (true : Bool) = true then (if e = 6 then 6 else 7) else (odNx 7).toNat) = 7
      rw [if_pos rfl, if_neg (by rw [t3 rfl]; decide)]
  have e2 : (opOf (odOf ⟨ph, ap, slot, s, seq, aw, av, e, h, n⟩)).ap = ap := by
    match ap, hap with
    | 0, _ =>
      have : odNx ph ≠ 3 := by
        intro hx
        unfold odNx at hx
        split at hx <;> first | omega | (have := h3 rfl; omega)
      show (if (false : Bool) = true then 5 else if (0 : Int) = 0 then (if odNx ph = 3 then 1 else 0) else ((0 : Int) + 1).toNat) = 0
      rw [if_neg (by decide), if_pos rfl, if_neg this]
    | 1, _ =>
      have := t4 rfl
      subst this
      rfl
    | 2, _ | 3, _ | 4, _ | 5, _ => rfl
  show (⟨(opOf (odOf ⟨ph, ap, slot, s, seq, aw, av, e, h, n⟩)).ph, (opOf (odOf ⟨ph, ap, slot, s, seq, aw, av, e, h, n⟩)).ap, slot, s, seq, aw, av, e, h, n⟩ : Op) = _
  rw [e1, e2]
theorem opSt_told {o : Op} {m : Mm} (hg : o.good) (ht : o.told) : (opSt o m).told := by
  obtain ⟨h7, hap, _, _, _, _, h3⟩ := hg
  obtain ⟨t1, t2, t3, t4⟩ := ht
  obtain ⟨ph, ap, slot, s, seq, aw, av, e, h, n⟩ := o
  simp only at h7 hap h3 t1 t2 t3 t4
  have go : ∀ (s' : Int) (k : Nat), (e = 0 ∧ h = 0 ∧ n = 0) → (ap = 1 → False) → (opGo ⟨k, ap, slot, s', seq, aw, av, e, h, n⟩ m.c.s).told := fun s' k he h1 => by
    show Op.told (if w64 (slot + 1) ≥ m.c.s then ⟨6, ap, w64 (slot + 1), s', seq, aw, av, 6, h, n⟩ else ⟨0, ap, w64 (slot + 1), s', seq, aw, av, e, h, n⟩)
    split
    · exact ⟨fun x => (by (have : (6 : Nat) ≤ 5 := x; omega)), fun _ => ⟨rfl, he.2.1, he.2.2⟩, fun x => (by cases x), fun x => (h1 x).elim⟩
    · exact ⟨fun _ => he, fun x => (by cases x), fun x => (by cases x), fun x => (h1 x).elim⟩
  match ph, h7, t1, t2, t3, t4 with
  | 0, _, t1, _, _, t4 =>
    have he := t1 (by omega)
    simp only [opSt]
    split
    · exact ⟨fun _ => he, fun x => (by cases x), fun x => (by cases x), fun x => by have := t4 x; cases this⟩
    · exact go _ _ he (fun x => by have := t4 x; cases this)
  | 1, _, t1, _, _, t4 =>
    have he := t1 (by omega)
    simp only [opSt]
    split
    · exact ⟨fun _ => he, fun x => (by cases x), fun x => (by cases x), fun x => by have := t4 x; cases this⟩
    · exact go _ _ he (fun x => by have := t4 x; cases this)
  | 2, _, t1, _, _, t4 =>
    have he := t1 (by omega)
    simp only [opSt]
    split
    · exact ⟨fun _ => he, fun x => (by cases x), fun x => (by cases x), fun _ => rfl⟩
    · exact ⟨fun _ => he, fun x => (by cases x), fun x => (by cases x), fun x => by have := t4 x; cases this⟩
  | 3, _, t1, _, _, t4 =>
    have he := t1 (by omega)
    simp only [opSt, opHelp]
    split
    · exact ⟨fun _ => he, fun x => (by cases x), fun x => (by cases x), fun x => by cases x⟩
    · exact ⟨fun _ => he, fun x => (by cases x), fun x => (by cases x), fun _ => rfl⟩
    · exact ⟨fun _ => he, fun x => (by cases x), fun x => (by cases x), fun _ => rfl⟩
    · exact ⟨fun _ => he, fun x => (by cases x), fun x => (by cases x), fun x => by cases x⟩
  | 4, _, t1, _, _, t4 => exact ⟨fun _ => t1 (by omega), fun x => (by cases x), fun x => (by cases x), fun x => by have := t4 x; cases this⟩
  | 5, _, t1, _, _, t4 => exact ⟨fun x => (by (have : (7 : Nat) ≤ 5 := x; omega)), fun x => (by cases x), fun _ => rfl, fun x => by have := t4 x; cases this⟩
  | 6, _, t1, t2, _, t4 => exact ⟨t1, t2, fun x => (by cases x), fun x => by have := t4 x; cases this⟩
  | 7, _, t1, t2, t3, t4 => exact ⟨t1, t2, t3, fun x => by have := t4 x; cases this⟩
def odOut (o : Op) (m : Mm) (o' : Op) (m' : Mm) : Prop := CallC Try.prog odF (docA Od.cells (odOf o) m) (rHp m) (docV (Od.cells (odOf o')) m' 2 3) (rOut m m')
theorem od_out {o o' : Op} {m m' : Mm} {ds : List Dec} {ns : List Nat} {pc : List Prop} {d : Od} (h : callR E46 12 odF (docA Od.cells (odOf o) m) (rHp m) ds ns = some (docV (Od.cells d) m' 2 3, rVw' m m'.w, pc)) (hd : d = odOf o') (hpc : ∀ p ∈ pc, p) (hns : ∀ k, k < 2 → ns.getD k 0 = k) : odOut o m o' m' := by
  subst hd
  exact r_vw' (V := docV _ _) (docV_rn rfl _) (docV_nm rfl _) (CallC.of_call E46ok h hpc rfl hns)
open Dec in
theorem od_C (o : Op) (m : Mm) (hg : opGood o m) (hr : m.c.Right) (ht : o.told) : odOut o m (opSt o m) (opMe o m) := by
  obtain ⟨ho, hw, h7, hap, hs, hav, haw, hsq, h3⟩ := hg
  obtain ⟨t1, t2, t3, t4⟩ := ht
  obtain ⟨ph, ap, slot, s, seq, aw, av, e, h, n⟩ := o
  simp only at h7 hap hs hav haw hsq h3 t1 t2 t3 t4
  have hV : ∀ k, Wd (vSt m k) := fun k => hw.getW _
  have hT : Wd (vTl m) := hw.getW _
  have hM : m.ok ∧ m.c.Right := ⟨ho, hr⟩
  match ph, h7, h3, t1, t2, t3, t4 with
  | 0, _, _, t1, _, _, _ =>
    obtain ⟨rfl, rfl, rfl⟩ := t1 (by omega)
    cases h1 : (nuI (vSt m slot) 27 3 == 0) with
    | false =>
      have hf : freeI (vSt m slot) m.c.g = false := by unfold freeI; rw [h1]; rfl
      by_cases h2 : decide (w64 (slot + 1) ≥ m.c.s) = true
      · have e1 : opSt ⟨0, ap, slot, s, seq, aw, av, 0, 0, 0⟩ m = ⟨6, ap, w64 (slot + 1), vSt m slot, seq, aw, av, 6, 0, 0⟩ := by simp only [opSt, hf, opGo, of_decide_eq_true h2, if_true]; rfl
        rw [e1]
        exact od_out (d_l_at slot s seq aw _ av 0 0 0 _ m) rfl (pcs_of ⟨hM, hV _, h1, h2, trivial⟩) z2L
      · have h2 := eq_false_of_ne_true h2
        have e1 : opSt ⟨0, ap, slot, s, seq, aw, av, 0, 0, 0⟩ m = ⟨0, ap, w64 (slot + 1), vSt m slot, seq, aw, av, 0, 0, 0⟩ := by simp only [opSt, hf, opGo, of_decide_eq_false h2, if_false]; rfl
        rw [e1]
        exact od_out (d_l_af slot s seq aw _ av 0 0 0 _ m) rfl (pcs_of ⟨hM, hV _, h1, h2, trivial⟩) z2L
    | true =>
      cases h4 : decide (nuI (vSt m slot) 30 32 ≤ m.c.g) with
      | false =>
        have h4' : decide (nuI (vSt m slot) 30 32 > m.c.g) = true := decide_eq_true (by have := of_decide_eq_false h4; omega)
        have hf : freeI (vSt m slot) m.c.g = false := by unfold freeI; rw [h1, h4']; rfl
        by_cases h2 : decide (w64 (slot + 1) ≥ m.c.s) = true
        · have e1 : opSt ⟨0, ap, slot, s, seq, aw, av, 0, 0, 0⟩ m = ⟨6, ap, w64 (slot + 1), vSt m slot, seq, aw, av, 6, 0, 0⟩ := by simp only [opSt, hf, opGo, of_decide_eq_true h2, if_true]; rfl
          rw [e1]
          exact od_out (d_l_bt slot s seq aw _ av 0 0 0 _ m) rfl (pcs_of ⟨hM, hV _, h1, hV _, h4, h2, trivial⟩) z2L
        · have h2 := eq_false_of_ne_true h2
          have e1 : opSt ⟨0, ap, slot, s, seq, aw, av, 0, 0, 0⟩ m = ⟨0, ap, w64 (slot + 1), vSt m slot, seq, aw, av, 0, 0, 0⟩ := by simp only [opSt, hf, opGo, of_decide_eq_false h2, if_false]; rfl
          rw [e1]
          exact od_out (d_l_bf slot s seq aw _ av 0 0 0 _ m) rfl (pcs_of ⟨hM, hV _, h1, hV _, h4, h2, trivial⟩) z2L
      | true =>
        have h4' : decide (nuI (vSt m slot) 30 32 > m.c.g) = false := decide_eq_false (by have := of_decide_eq_true h4; omega)
        have hf : freeI (vSt m slot) m.c.g = true := by unfold freeI; rw [h1, h4']; rfl
        have e1 : opSt ⟨0, ap, slot, s, seq, aw, av, 0, 0, 0⟩ m = ⟨1, ap, slot, vSt m slot, seq, aw, av, 0, 0, 0⟩ := by simp only [opSt, hf, if_true]
        rw [e1]
        exact od_out (d_l_f slot s seq aw _ av 0 0 0 _ m) rfl (pcs_of ⟨hM, hV _, h1, hV _, h4, trivial⟩) z2L
  | 1, _, _, t1, _, _, _ =>
    obtain ⟨rfl, rfl, rfl⟩ := t1 (by omega)
    cases hd : dnS m 4 slot s with
    | true =>
      have e1 : opSt ⟨1, ap, slot, s, seq, aw, av, 0, 0, 0⟩ m = ⟨2, ap, slot, s, seq, aw, av, 0, 0, 0⟩ := by simp only [opSt, hd, if_true]
      rw [e1]
      exact od_out (d_t_y slot s seq aw _ av 0 0 0 _ m) rfl (pcs_of ⟨hs, hM, by rw [hd]; rfl, trivial⟩) z2L
    | false =>
      by_cases h2 : decide (w64 (slot + 1) ≥ m.c.s) = true
      · have e1 : opSt ⟨1, ap, slot, s, seq, aw, av, 0, 0, 0⟩ m = ⟨6, ap, w64 (slot + 1), s, seq, aw, av, 6, 0, 0⟩ := by simp only [opSt, hd, opGo, of_decide_eq_true h2, if_true]; rfl
        rw [e1]
        exact od_out (d_t_nt slot s seq aw _ av 0 0 0 _ m) rfl (pcs_of ⟨hs, hM, by rw [hd]; rfl, h2, trivial⟩) z2L
      · have h2 := eq_false_of_ne_true h2
        have e1 : opSt ⟨1, ap, slot, s, seq, aw, av, 0, 0, 0⟩ m = ⟨0, ap, w64 (slot + 1), s, seq, aw, av, 0, 0, 0⟩ := by simp only [opSt, hd, opGo, of_decide_eq_false h2, if_false]; rfl
        rw [e1]
        exact od_out (d_t_nf slot s seq aw _ av 0 0 0 _ m) rfl (pcs_of ⟨hs, hM, by rw [hd]; rfl, h2, trivial⟩) z2L
  | 2, _, _, _, _, _, _ =>
    by_cases hp : decide (pendB (vTl m) ≥ 0) = true
    · have e1 : opSt ⟨2, ap, slot, s, seq, aw, av, e, h, n⟩ m = ⟨3, 1, slot, s, seqB (vTl m), vTl m, 0, e, h, n⟩ := by simp only [opSt, hp, if_true]
      have hn : decide (pendB (vTl m) < 0) = false := decide_eq_false (by have := of_decide_eq_true hp; omega)
      rw [e1]
      exact od_out (d_y_t slot s seq aw _ av e h n _ m) (by rw [hn]; rfl) (pcs_of ⟨hM, hT, hT, hp, hT, trivial⟩) z2L
    · have hp := eq_false_of_ne_true hp
      have e1 : opSt ⟨2, ap, slot, s, seq, aw, av, e, h, n⟩ m = ⟨4, ap, slot, s, seqB (vTl m), aw, av, e, h, n⟩ := by simp only [opSt, hp]; rfl
      rw [e1]
      exact od_out (d_y_f slot s seq aw _ av e h n _ m) rfl (pcs_of ⟨hM, hT, hT, hp, trivial⟩) z2L
  | 3, _, h3, _, _, _, _ =>
    obtain ⟨h31, h34⟩ := h3 rfl
    match ap, h31, h34 with
    | 1, _, _ =>
      have e1 : opSt ⟨3, 1, slot, s, seq, aw, av, e, h, n⟩ m = ⟨3, 2, slot, s, seq, aw, av, e, h, n⟩ := rfl
      have e2 : opMe ⟨3, 1, slot, s, seq, aw, av, e, h, n⟩ m = mSw m 6 (pendB aw) 0 (seqB aw) := rfl
      rw [e1, e2]
      exact od_out (d_h0 slot s seq aw av e h n m) rfl (pcs_of ⟨haw, hM, trivial⟩) z2L
    | 2, _, _ =>
      cases hd : (nuI (vSt m (pendB aw)) 27 3 == 3) with
      | true =>
        have e1 : opSt ⟨3, 2, slot, s, seq, aw, av, e, h, n⟩ m = ⟨3, 3, slot, s, seq, aw, vSt m (pendB aw), e, h, n⟩ := by simp only [opSt, opHelp, hd, if_true]
        rw [e1]
        exact od_out (d_h1t slot s seq aw av e h n m) rfl (pcs_of ⟨haw, hM, hV _, hd, trivial⟩) z2L
      | false =>
        have e1 : opSt ⟨3, 2, slot, s, seq, aw, av, e, h, n⟩ m = ⟨3, 4, slot, s, seq, aw, vSt m (pendB aw), e, h, n⟩ := by simp only [opSt, opHelp, hd]; rfl
        rw [e1]
        exact od_out (d_h1f slot s seq aw av e h n m) rfl (pcs_of ⟨haw, hM, hV _, hd, trivial⟩) z2L
    | 3, _, _ =>
      cases hd : dnS m 4 (pendB aw) av with
      | true =>
        have e1 : opSt ⟨3, 3, slot, s, seq, aw, av, e, h, n⟩ m = ⟨3, 4, slot, s, seq, aw, av, e, h, n⟩ := by simp only [opSt, opHelp, hd, if_true]
        rw [e1]
        exact od_out (d_h2t slot s seq aw av e h n m) rfl (pcs_of ⟨haw, hav, hav, hM, hd, trivial⟩) z2L
      | false =>
        have e1 : opSt ⟨3, 3, slot, s, seq, aw, av, e, h, n⟩ m = ⟨3, 2, slot, s, seq, aw, av, e, h, n⟩ := by simp only [opSt, opHelp, hd]; rfl
        rw [e1]
        exact od_out (d_h2f slot s seq aw av e h n m) rfl (pcs_of ⟨haw, hav, hav, hM, hd, trivial⟩) z2L
    | 4, _, _ =>
      have e1 : opSt ⟨3, 4, slot, s, seq, aw, av, e, h, n⟩ m = ⟨2, 5, slot, s, seq, aw, av, e, h, n⟩ := rfl
      have e2 : opMe ⟨3, 4, slot, s, seq, aw, av, e, h, n⟩ m = mSw m 1 0 aw (setB aw) := rfl
      rw [e1, e2]
      exact od_out (d_h3 slot s seq aw av e h n m) rfl (pcs_of ⟨haw, haw, hM, trivial⟩) z2L
  | 4, _, _, _, _, _, _ =>
    have e1 : opSt ⟨4, ap, slot, s, seq, aw, av, e, h, n⟩ m = ⟨5, ap, slot, s, seq, aw, av, e, h, n⟩ := rfl
    have e2 : opMe ⟨4, ap, slot, s, seq, aw, av, e, h, n⟩ m = mSt m 5 slot seq := rfl
    rw [e1, e2]
    exact od_out (d_n slot s seq aw _ av e h n _ m) rfl (pcs_of ⟨hM, trivial⟩) z2L
  | 5, _, _, _, _, _, _ =>
    have e1 : opSt ⟨5, ap, slot, s, seq, aw, av, e, h, n⟩ m = ⟨7, ap, slot, s, seq, aw, av, 0, mkT slot (nuI s 30 32), seq⟩ := rfl
    have e2 : opMe ⟨5, ap, slot, s, seq, aw, av, e, h, n⟩ m = mSt m 4 slot (mvI s 2 false) := rfl
    rw [e1, e2]
    exact od_out (d_s slot s seq aw _ av e h n _ m) rfl (pcs_of ⟨hs, hs, hM, trivial⟩) z2L
  | 6, _, _, _, _, _, _ => exact r_same (V := docV _ m) rfl (docV_rn rfl m) (docV_nm rfl m) (CallC.of_call E46ok (d_dn slot _ s seq aw _ av e h n _ m) (pcs_of trivial) rfl z2L)
  | 7, _, _, _, _, _, _ => exact r_same (V := docV _ m) rfl (docV_rn rfl m) (docV_nm rfl m) (CallC.of_call E46ok (d_dn slot _ s seq aw _ av e h n _ m) (pcs_of trivial) rfl z2L)
abbrev gOd' : List Value → Hp → Option (Value × Hp × List Prop) := gDoc odL Od.cells (fun d m => odOf (opSt (opOf d) m)) (fun d m => opMe (opOf d) m) (fun d m => d = odOf (opOf d) ∧ opGood (opOf d) m ∧ m.c.Right ∧ (opOf d).told)
theorem gOd'_ok : ∀ args hp v hp' pc, gOd' args hp = some (v, hp', pc) → ∀ ds, CallOk Try.prog odF args hp ⟨v, hp', ds, pc⟩ :=
  gDoc_ok (fun _ _ => odL_some) (fun _ => rfl) (enters (fn := Try.f28) (by kernel_rfl) (by kernel_rfl) rfl) fun d m h => by
    obtain ⟨h1, h2, h3, h4⟩ := h
    have := od_C (opOf d) m h2 h3 h4
    unfold odOut at this
    rw [← h1] at this
    exact this
noncomputable def E50d : Env := E50o.add odF gOd'
theorem E50dok : EnvOk E50d := E50ook.add gOd'_ok
end Go.Proofs.Ytjkohcdgjlaobaa.Ct
