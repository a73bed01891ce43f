/- What 'OpenTwo' comes to, of any input: it returns true and changes nothing that was there. -/
import Derived.Test.YtjkohcdgjlaobaaLwOpenTwoV
namespace Go.Proofs.Ytjkohcdgjlaobaa.OpenTwoDone
open Go Go.Proofs Go.Proofs.Ytjkohcdgjlaobaa.Ev Go.Proofs.Ytjkohcdgjlaobaa.Ct
open Go.RowKit

theorem free0 {c : Cfg} (hr : c.Right) : freeI 0 c.g = true := by
  unfold Cfg.Right at hr
  have e1 : nuI 0 27 3 = 0 := rfl
  have e2 : nuI 0 30 32 = 0 := rfl
  unfold freeI
  rw [e1, e2, decide_eq_false (by omega)]
  rfl
/-- It has this slot. -/
def Own (o : Ct.Op) (j : Int) : Prop := (o.ph = 2 ∨ o.ph = 4 ∨ o.ph = 5 ∨ o.ph = 7) ∧ o.slot = j
def At (c : Cfg) (o : Ct.Op) : Prop := o.slot = 0 ∨ (o.slot = 1 ∧ 1 < c.s)
/-- Where one is, beside another. -/
def OI (c : Cfg) (o p : Ct.Op) : Prop :=
  ((o.ph = 0 ∨ (o.ph = 1 ∧ o.s = 0)) ∧ (o.slot = 0 ∨ (o.slot = 1 ∧ 1 < c.s ∧ Own p 0))) ∨
  ((o.ph = 2 ∨ o.ph = 4 ∨ o.ph = 5) ∧ o.s = 0 ∧ At c o) ∨
  (o.ph = 7 ∧ o.e = 0 ∧ o.h = mkT o.slot 0 ∧ At c o) ∨
  (o.ph = 6 ∧ o.e = 6 ∧ c.s = 1 ∧ Own p 0)
theorem OI.mono {c : Cfg} {o p p' : Ct.Op} (h : OI c o p) (hm : ∀ j, Own p j → Own p' j) : OI c o p' := by
  rcases h with ⟨h1, h2 | ⟨h2, h3, h4⟩⟩ | h | h | ⟨h1, h2, h3, h4⟩
  · exact .inl ⟨h1, .inl h2⟩
  · exact .inl ⟨h1, .inr ⟨h2, h3, hm _ h4⟩⟩
  · exact .inr (.inl h)
  · exact .inr (.inr (.inl h))
  · exact .inr (.inr (.inr ⟨h1, h2, h3, hm _ h4⟩))
theorem own_rng {c : Cfg} (hr : c.Right) {o p : Ct.Op} (h : OI c o p) {j : Int} (ho : Own o j) : 0 ≤ j ∧ j < c.s := by
  have hs := sl_rng hr
  obtain ⟨h1, rfl⟩ := ho
  rcases h with ⟨h2, h3⟩ | ⟨_, _, h3⟩ | ⟨_, _, _, h3⟩ | ⟨h2, _⟩
  · omega
  · unfold At at h3; omega
  · unfold At at h3; omega
  · omega
structure TI (c : Cfg) (m : Mm) (a b : Ct.Op) : Prop where
  ga : opGood a m
  gb : opGood b m
  cc : m.c = c
  tally : getW m.w 0 = 0
  wd : ∀ j, 0 ≤ j → j < c.s → sWd c m.w j = 0 ∨ Own a j ∨ Own b j
  oa : ∀ j, Own a j → freeI (sWd c m.w j) c.g = false
  ob : ∀ j, Own b j → freeI (sWd c m.w j) c.g = false
  ne : ∀ j, Own a j → Own b j → False
  ia : OI c a b
  ib : OI c b a
theorem TI.symm {c : Cfg} {m : Mm} {a b : Ct.Op} (h : TI c m a b) : TI c m b a :=
  ⟨h.gb, h.ga, h.cc, h.tally, fun j h0 h1 => (h.wd j h0 h1).imp id Or.symm, h.ob, h.oa, fun j x y => h.ne j y x, h.ib, h.ia⟩
theorem own_op0 {j : Int} : ¬ Own op0 j := fun h => by
  obtain ⟨h1, _⟩ := h
  have : op0.ph = 0 := rfl
  omega
theorem TI.start {c : Cfg} (hr : c.Right) : TI c (nwM c) op0 op0 :=
  have hg : opGood op0 (nwM c) := ⟨nwM_ok hr, zW_wf c, op0_good⟩
  have hi : OI c op0 op0 := .inl ⟨.inl rfl, .inl rfl⟩
  ⟨hg, hg, rfl, getW_zero c 0, fun _ _ _ => .inl (getW_zero c _), fun _ h => absurd h own_op0, fun _ h => absurd h own_op0, fun _ h => absurd h own_op0, hi, hi⟩
theorem TI.next {c : Cfg} (hr : c.Right) {m : Mm} {a b : Ct.Op} (h : TI c m a b) (tal : getW (opMe a m).w 0 = 0) (own : ∀ j, Own a j → Own (opSt a m) j)
    (sw : ∀ j, 0 ≤ j → j < c.s → sWd c (opMe a m).w j = sWd c m.w j ∨ (Own (opSt a m) j ∧ freeI (sWd c (opMe a m).w j) c.g = false))
    (nw : ∀ j, Own (opSt a m) j → Own a j ∨ (¬ Own b j ∧ freeI (sWd c (opMe a m).w j) c.g = false)) (ia : OI c (opSt a m) b) : TI c (opMe a m) (opSt a m) b := by
  have hm := opMe_ok h.ga
  refine ⟨opStep_good h.ga, ⟨hm.1, hm.2.2, h.gb.2.2⟩, hm.2.1.trans h.cc, tal, fun j j0 j1 => ?_, fun j hj => ?_, fun j hj => ?_, fun j hj hb => ?_, ia, h.ib.mono own⟩
  · rcases sw j j0 j1 with e | ⟨e, _⟩
    · rw [e]
      rcases h.wd j j0 j1 with x | x | x
      · exact .inl x
      · exact .inr (.inl (own j x))
      · exact .inr (.inr x)
    · exact .inr (.inl e)
  · rcases nw j hj with x | ⟨_, x⟩
    · obtain ⟨j0, j1⟩ := own_rng hr h.ia x
      rcases sw j j0 j1 with e | ⟨_, e⟩
      · rw [e]; exact h.oa j x
      · exact e
    · exact x
  · obtain ⟨j0, j1⟩ := own_rng hr h.ib hj
    rcases sw j j0 j1 with e | ⟨e, _⟩
    · rw [e]; exact h.ob j hj
    · rcases nw j e with x | ⟨x, _⟩
      · exact absurd hj fun y => h.ne j x y
      · exact absurd hj x
  · rcases nw j hj with x | ⟨x, _⟩
    · exact h.ne j x hb
    · exact x hb
def mu (o : Ct.Op) : Nat := match o.ph with
  | 0 => (9 - 2 * o.slot).toNat
  | 1 => (8 - 2 * o.slot).toNat
  | 2 => 3
  | 4 => 2
  | 5 => 1
  | _ => 0
theorem ixz {c : Cfg} (hr : c.Right) : ∀ {k j : Int}, k = 4 ∨ k = 5 → 0 ≤ j → j < c.s → 0 < cellIx c k j ∧ cellIx c k j < c.len := fun {k j} hk h0 h1 => by
  have := ixs_rng hr (k := k) (n := j) (by omega) h0 h1
  omega
theorem go {c : Cfg} (hr : c.Right) {ap : Nat} {k s seq aw av e h n : Int} {ph : Nat} {b : Ct.Op} (hk : k = 0 ∨ (k = 1 ∧ 1 < c.s ∧ Own b 0)) (hb : Own b k) :
    OI c (opGo ⟨ph, ap, k, s, seq, aw, av, e, h, n⟩ c.s) b ∧ (∀ j, ¬ Own (opGo ⟨ph, ap, k, s, seq, aw, av, e, h, n⟩ c.s) j) ∧ mu (opGo ⟨ph, ap, k, s, seq, aw, av, e, h, n⟩ c.s) ≤ 7 ∧ k = 0 := by
  have hs := sl_rng hr
  have k0 : k = 0 := by
    rcases hk with x | ⟨x, _, y⟩
    · exact x
    · obtain ⟨_, y⟩ := y
      obtain ⟨_, z⟩ := hb
      omega
  subst k0
  have w1 : w64 (0 + 1) = 1 := w64_in (by omega) (by omega)
  by_cases h1 : (1 : Int) ≥ c.s
  · have e1 : opGo ⟨ph, ap, 0, s, seq, aw, av, e, h, n⟩ c.s = ⟨6, ap, 1, s, seq, aw, av, 6, h, n⟩ := by simp only [opGo, w1, h1, if_true]
    rw [e1]
    refine ⟨.inr (.inr (.inr ⟨rfl, rfl, by omega, hb⟩)), fun j hj => ?_, by show 0 ≤ 7; omega, rfl⟩
    obtain ⟨x, _⟩ := hj
    simp only at x
    omega
  · have e1 : opGo ⟨ph, ap, 0, s, seq, aw, av, e, h, n⟩ c.s = ⟨0, ap, 1, s, seq, aw, av, e, h, n⟩ := by simp only [opGo, w1, h1, if_false]
    rw [e1]
    refine ⟨.inl ⟨.inl rfl, .inr ⟨rfl, by omega, hb⟩⟩, fun j hj => ?_, by show (9 - 2 * 1 : Int).toNat ≤ 7; decide, rfl⟩
    obtain ⟨x, _⟩ := hj
    simp only at x
    omega
theorem TI.step {c : Cfg} (hr : c.Right) {m : Mm} {a b : Ct.Op} (h : TI c m a b) : TI c (opMe a m) (opSt a m) b ∧ (a.dn = false → mu (opSt a m) < mu a) := by
  have hs := sl_rng hr
  have hc := h.cc
  have l0 : (m.w.length : Int) = c.len := by rw [h.ga.1.2, hc]
  obtain ⟨ph, ap, slot, s, seq, aw, av, e, hh, n⟩ := a
  have no : ∀ {ap slot s seq aw av e hh n} {ph : Nat}, (ph = 0 ∨ ph = 1) → ∀ j, ¬ Own ⟨ph, ap, slot, s, seq, aw, av, e, hh, n⟩ j := fun hp j hj => by
    obtain ⟨x, _⟩ := hj
    simp only at x
    omega
  rcases h.ia with ⟨h1, h2⟩ | ⟨h1, h2, h3⟩ | ⟨h1, h2, h3, h4⟩ | ⟨h1, h2, h3, h4⟩
  · simp only at h1 h2
    have k0 : 0 ≤ slot ∧ slot < c.s := by omega
    have i4 := ixz hr (k := 4) (.inl rfl) k0.1 k0.2
    have bk : sWd c m.w slot ≠ 0 → Own b slot := fun hz => by
      rcases h.wd slot k0.1 k0.2 with x | x | x
      · exact absurd x hz
      · exact absurd x (no (by omega) _)
      · exact x
    have mk : mu ⟨ph, ap, slot, s, seq, aw, av, e, hh, n⟩ = if ph = 0 then (9 - 2 * slot).toNat else (8 - 2 * slot).toNat := by
      rcases h1 with rfl | ⟨rfl, _⟩ <;> rfl
    rcases h1 with rfl | ⟨rfl, rfl⟩
    · have ev : vSt m slot = sWd c m.w slot := by show getW m.w (cellIx m.c 4 slot) = _; rw [hc]
      have ew : (opMe ⟨0, ap, slot, s, seq, aw, av, e, hh, n⟩ m).w = m.w := rfl
      by_cases hz : sWd c m.w slot = 0
      · have e1 : opSt ⟨0, ap, slot, s, seq, aw, av, e, hh, n⟩ m = ⟨1, ap, slot, 0, seq, aw, av, e, hh, n⟩ := by
          simp only [opSt, ev, hz, hc, free0 hr, if_true]
        refine ⟨h.next hr h.tally (fun j hj => absurd hj (no (.inl rfl) j)) (fun j _ _ => .inl rfl) (fun j hj => ?_) ?_, fun _ => ?_⟩
        · rw [e1] at hj; exact absurd hj (no (.inr rfl) j)
        · rw [e1]; exact .inl ⟨.inr ⟨rfl, rfl⟩, h2⟩
        · rw [e1]; show (8 - 2 * slot).toNat < (9 - 2 * slot).toNat; omega
      · have hb := bk hz
        have hf := h.ob _ hb
        obtain ⟨g1, g2, g3, g4⟩ := go hr (ph := 0) (ap := ap) (s := sWd c m.w slot) (seq := seq) (aw := aw) (av := av) (e := e) (h := hh) (n := n) h2 hb
        have e1 : opSt ⟨0, ap, slot, s, seq, aw, av, e, hh, n⟩ m = opGo ⟨0, ap, slot, sWd c m.w slot, seq, aw, av, e, hh, n⟩ c.s := by
          simp only [opSt, ev, hc, hf, Bool.false_eq_true, if_false]
        refine ⟨h.next hr h.tally (fun j hj => absurd hj (no (.inl rfl) j)) (fun j _ _ => .inl rfl) (fun j hj => ?_) ?_, fun _ => ?_⟩
        · rw [e1] at hj; exact absurd hj (g2 j)
        · rw [e1]; exact g1
        · rw [e1, mk, if_pos rfl]; omega
    · by_cases hz : sWd c m.w slot = 0
      · have d : dnS m 4 slot 0 = true := by
          show (decide (0 ≤ cellIx m.c 4 slot) && (getW m.w (cellIx m.c 4 slot) == 0)) = true
          rw [hc, show getW m.w (cellIx c 4 slot) = 0 from hz, decide_eq_true (by omega)]
          rfl
        have e1 : opSt ⟨1, ap, slot, 0, seq, aw, av, e, hh, n⟩ m = ⟨2, ap, slot, 0, seq, aw, av, e, hh, n⟩ := by simp only [opSt, d, if_true]
        have e2 : (opMe ⟨1, ap, slot, 0, seq, aw, av, e, hh, n⟩ m).w = setW m.w (cellIx c 4 slot) (mvI 0 1 false) := by
          show swpW m.w (cellIx m.c 4 slot) 0 _ = _
          rw [hc]
          exact if_pos hz
        have ef : freeI (getW (setW m.w (cellIx c 4 slot) (mvI 0 1 false)) (cellIx c 4 slot)) c.g = false := by
          rw [getW_set_same (by omega) (by omega)]
          rfl
        have eo : Own (opSt ⟨1, ap, slot, 0, seq, aw, av, e, hh, n⟩ m) slot := by rw [e1]; exact ⟨.inl rfl, rfl⟩
        refine ⟨h.next hr ?_ (fun j hj => absurd hj (no (.inr rfl) j)) (fun j j0 j1 => ?_) (fun j hj => ?_) ?_, fun _ => ?_⟩
        · rw [e2, getW_set_ne (by omega)]
          exact h.tally
        · rw [e2]
          by_cases q : j = slot
          · subst q
            exact .inr ⟨eo, ef⟩
          · refine .inl (getW_set_ne ?_)
            have a1 := ixs hr (k := 4) (n := j) (.inl rfl) j0 j1
            have a2 := ixs hr (k := 4) (n := slot) (.inl rfl) k0.1 k0.2
            omega
        · rw [e1] at hj
          obtain ⟨_, q⟩ := hj
          simp only at q
          subst q
          refine .inr ⟨fun hb => ?_, by rw [e2]; exact ef⟩
          have := h.ob _ hb
          rw [hz, free0 hr] at this
          cases this
        · rw [e1]
          refine .inr (.inl ⟨.inl rfl, rfl, ?_⟩)
          rcases h2 with x | ⟨x, y, _⟩
          · exact .inl x
          · exact .inr ⟨x, y⟩
        · rw [e1, mk, if_neg (by decide)]
          show 3 < _
          omega
      · have hb := bk hz
        obtain ⟨g1, g2, g3, g4⟩ := go hr (ph := 1) (ap := ap) (s := 0) (seq := seq) (aw := aw) (av := av) (e := e) (h := hh) (n := n) h2 hb
        have d : dnS m 4 slot 0 = false := by
          show (decide (0 ≤ cellIx m.c 4 slot) && (getW m.w (cellIx m.c 4 slot) == 0)) = false
          rw [hc, beq_eq_false_iff_ne.2 (show getW m.w (cellIx c 4 slot) ≠ 0 from hz)]
          exact Bool.and_false _
        have e1 : opSt ⟨1, ap, slot, 0, seq, aw, av, e, hh, n⟩ m = opGo ⟨1, ap, slot, 0, seq, aw, av, e, hh, n⟩ c.s := by
          simp only [opSt, d, hc, Bool.false_eq_true, if_false]
        have e2 : (opMe ⟨1, ap, slot, 0, seq, aw, av, e, hh, n⟩ m).w = m.w := by
          show swpW m.w (cellIx m.c 4 slot) 0 _ = _
          rw [hc]
          exact if_neg hz
        refine ⟨h.next hr (by rw [e2]; exact h.tally) (fun j hj => absurd hj (no (.inr rfl) j)) (fun j _ _ => .inl (by rw [e2])) (fun j hj => ?_) ?_, fun _ => ?_⟩
        · rw [e1] at hj; exact absurd hj (g2 j)
        · rw [e1]; exact g1
        · rw [e1, mk, if_neg (by decide)]; omega
  · simp only at h1 h2
    subst h2
    have k0 : 0 ≤ slot ∧ slot < c.s := by unfold At at h3; simp only at h3; omega
    have i4 := ixz hr (k := 4) (.inl rfl) k0.1 k0.2
    have i5 := ixz hr (k := 5) (.inr rfl) k0.1 k0.2
    rcases h1 with rfl | rfl | rfl
    · have ev : vTl m = 0 := by show getW m.w (cellIx m.c 1 0) = 0; rw [hc, ix_tally hr]; exact h.tally
      have d : decide (pendB 0 ≥ 0) = false := by decide
      have e1 : opSt ⟨2, ap, slot, 0, seq, aw, av, e, hh, n⟩ m = ⟨4, ap, slot, 0, seqB 0, aw, av, e, hh, n⟩ := by
        simp only [opSt, ev, d]
        rfl
      refine ⟨h.next hr h.tally (fun j hj => ?_) (fun j _ _ => .inl rfl) (fun j hj => ?_) ?_, fun _ => ?_⟩
      · rw [e1]; exact ⟨.inr (.inl rfl), hj.2⟩
      · rw [e1] at hj; exact .inl ⟨.inl rfl, hj.2⟩
      · rw [e1]; exact .inr (.inl ⟨.inr (.inl rfl), rfl, h3⟩)
      · rw [e1]; show 2 < 3; omega
    · have e2 : (opMe ⟨4, ap, slot, 0, seq, aw, av, e, hh, n⟩ m).w = setW m.w (cellIx c 5 slot) seq := by show setW m.w (cellIx m.c 5 slot) seq = _; rw [hc]
      refine ⟨h.next hr ?_ (fun j hj => ⟨.inr (.inr (.inl rfl)), hj.2⟩) (fun j j0 j1 => ?_) (fun j hj => .inl ⟨.inr (.inl rfl), hj.2⟩) (.inr (.inl ⟨.inr (.inr rfl), rfl, h3⟩)), fun _ => by show 1 < 2; omega⟩
      · rw [e2, getW_set_ne (by omega)]
        exact h.tally
      · rw [e2]
        refine .inl (getW_set_ne ?_)
        have a1 := ixs hr (k := 4) (n := j) (.inl rfl) j0 j1
        have a2 := ixs hr (k := 5) (n := slot) (.inr (.inl rfl)) k0.1 k0.2
        omega
    · have e2 : (opMe ⟨5, ap, slot, 0, seq, aw, av, e, hh, n⟩ m).w = setW m.w (cellIx c 4 slot) (mvI 0 2 false) := by show setW m.w (cellIx m.c 4 slot) _ = _; rw [hc]
      refine ⟨h.next hr ?_ (fun j hj => ⟨.inr (.inr (.inr rfl)), hj.2⟩) (fun j j0 j1 => ?_) (fun j hj => .inl ⟨.inr (.inr (.inl rfl)), hj.2⟩) (.inr (.inr (.inl ⟨rfl, rfl, rfl, h3⟩))), fun _ => by show 0 < 1; omega⟩
      · rw [e2, getW_set_ne (by omega)]
        exact h.tally
      · rw [e2]
        by_cases q : j = slot
        · subst q
          refine .inr ⟨⟨.inr (.inr (.inr rfl)), rfl⟩, ?_⟩
          show freeI (getW _ _) _ = false
          rw [getW_set_same (by omega) (by omega)]
          rfl
        · refine .inl (getW_set_ne ?_)
          have a1 := ixs hr (k := 4) (n := j) (.inl rfl) j0 j1
          have a2 := ixs hr (k := 4) (n := slot) (.inl rfl) k0.1 k0.2
          omega
  · simp only at h1
    subst h1
    exact ⟨h, fun x => by cases x⟩
  · simp only at h1
    subst h1
    exact ⟨h, fun x => by cases x⟩
theorem mu_dn {c : Cfg} {o p : Ct.Op} (h : OI c o p) (h0 : mu o = 0) : o.dn = true := by
  obtain ⟨ph, ap, slot, s, seq, aw, av, e, hh, n⟩ := o
  rcases h with ⟨h1, h2⟩ | ⟨h1, h2, h3⟩ | ⟨h1, h2, h3, h4⟩ | ⟨h1, h2, h3, h4⟩
  · exfalso
    simp only at h1 h2
    rcases h1 with rfl | ⟨rfl, _⟩
    · have e1 : (9 - 2 * slot).toNat = 0 := h0
      omega
    · have e1 : (8 - 2 * slot).toNat = 0 := h0
      omega
  · exfalso
    simp only at h1
    rcases h1 with rfl | rfl | rfl <;> cases h0
  · simp only at h1; subst h1; rfl
  · simp only at h1; subst h1; rfl
theorem mu_le {c : Cfg} {o p : Ct.Op} (h : OI c o p) : mu o ≤ 9 := by
  obtain ⟨ph, ap, slot, s, seq, aw, av, e, hh, n⟩ := o
  rcases h with ⟨h1, h2⟩ | ⟨h1, h2, h3⟩ | ⟨h1, h2, h3, h4⟩ | ⟨h1, h2, h3, h4⟩
  · simp only at h1 h2
    rcases h1 with rfl | ⟨rfl, _⟩
    · show (9 - 2 * slot).toNat ≤ 9
      omega
    · show (8 - 2 * slot).toNat ≤ 9
      omega
  · simp only at h1
    rcases h1 with rfl | rfl | rfl
    · show 3 ≤ 9; omega
    · show 2 ≤ 9; omega
    · show 1 ≤ 9; omega
  · simp only at h1; subst h1; show 0 ≤ 9; omega
  · simp only at h1; subst h1; show 0 ≤ 9; omega
theorem runs {c : Cfg} (hr : c.Right) {b : Ct.Op} : ∀ (n k : Nat) (a : Ct.Op) (m : Mm), TI c m a b → mu a ≤ n → (opRun n k a m).2.1.dn = true ∧ TI c (opRun n k a m).2.2 (opRun n k a m).2.1 b
  | 0, k, a, m, h, hn => ⟨mu_dn (o := a) h.ia (Nat.le_zero.1 hn), h⟩
  | n + 1, k, a, m, h, hn => by
    cases hd : a.dn with
    | true =>
      rw [opRun_dn hd]
      exact ⟨hd, h⟩
    | false =>
      rw [opRun_go hd]
      obtain ⟨h1, h2⟩ := h.step hr
      have := h2 hd
      exact runs hr n (k + 1) _ _ h1 (by omega)
/-- At the end. -/
theorem fin {c : Cfg} {m : Mm} {a b : Ct.Op} (h : TI c m a b) (ha : a.dn = true) (hb : b.dn = true) :
    (a.e = 0 ∧ b.e = 0 ∧ a.h ≠ b.h) ∨ (a.e = 6 ∧ b.e = 0 ∧ c.s = 1) ∨ (a.e = 0 ∧ b.e = 6 ∧ c.s = 1) := by
  have dn : ∀ o : Ct.Op, o.dn = true → 6 ≤ o.ph := fun o h => of_decide_eq_true h
  have da := dn a ha
  have db := dn b hb
  rcases h.ia with ⟨h1, _⟩ | ⟨h1, _⟩ | ⟨h1, h2, h3, h4⟩ | ⟨h1, h2, h3, h4⟩
  · omega
  · omega
  · rcases h.ib with ⟨k1, _⟩ | ⟨k1, _⟩ | ⟨k1, k2, k3, k4⟩ | ⟨k1, k2, k3, k4⟩
    · omega
    · omega
    · refine .inl ⟨h2, k2, ?_⟩
      have hne : a.slot ≠ b.slot := fun e => h.ne a.slot ⟨.inr (.inr (.inr h1)), rfl⟩ ⟨.inr (.inr (.inr k1)), e.symm⟩
      rw [h3, k3]
      unfold At at h4 k4
      rcases h4 with x | ⟨x, _⟩ <;> rcases k4 with y | ⟨y, _⟩
      · omega
      · rw [x, y]; decide
      · rw [x, y]; decide
      · omega
    · exact .inr (.inr ⟨h2, k2, k3⟩)
  · obtain ⟨o1, o2⟩ := h4
    rcases h.ib with ⟨k1, _⟩ | ⟨k1, _⟩ | ⟨k1, k2, k3, k4⟩ | ⟨k1, k2, k3, k4⟩
    · omega
    · omega
    · exact .inr (.inl ⟨h2, k2, h3⟩)
    · omega
theorem big_or (ik : Bk) : (∃ of2 cap2 L, ik = .row of2 cap2 L ∧ 200 < (L.length : Int)) ∨ ((∀ p ∈ big ik, p) ∧ (ik.len : Int) ≤ 200) := by
  cases ik with
  | nil => exact .inr ⟨pcs_of trivial, by simp [Bk.len]⟩
  | row of2 cap2 L =>
    by_cases h : (L.length : Int) > 200
    · exact .inl ⟨of2, cap2, L, rfl, h⟩
    · exact .inr ⟨pcs_of ⟨decide_eq_false h, trivial⟩, by show (L.length : Int) ≤ 200; omega⟩
theorem z1 {tl : List Nat} : ∀ k, k < 1 → (0 :: tl).getD k 0 = k := fun k hk => by
  match k, hk with
  | 0, _ => rfl
open Dec in
theorem main (c : Cfg) (ik : Bk) (hr : c.Right) : CallC Try.prog fid (A c ik) (iHp ik) (.bool true) (iHp ik) := by
  rcases big_or ik with ⟨of2, cap2, L, rfl, hL⟩ | ⟨hb, hlen⟩
  · exact CallC.of_call E50nok (p_long c of2 cap2 L) (pcs_of ⟨hr, rfl, rfl, decide_eq_true hL, trivial⟩) rfl z1
  refine CallC.of_body (E := E50n) (ds := []) (fn := fn) 121 (by kernel_rfl) (by kernel_rfl) (by kernel_rfl) (by kernel_rfl) ?_
  refine KC.of_exec (fr := start c ik [Dec.l, Dec.l, Dec.l, Dec.l, dsB ik]) E50nok (p_in c ik) (pcs_app (pcs_of ⟨hr, rfl, rfl, trivial⟩) hb) (Nat.le_refl _) z1 ?_
  refine KC.loop (m0 := 1) (ι := Nat × Mm × Ct.Op × Ct.Op) (fun x => fr ik c x.2.1 x.2.2.1 x.2.2.2 (x.1 : Int) []) (fun x => x.1 ≤ ik.len ∧ TI c x.2.1 x.2.2.1 x.2.2.2) (fun x => ik.len - x.1)
    (fun ex fr => ex = .exit 0 ∧ ∃ m a b, TI c m a b ∧ fr = frX ik c m a b []) (fun x hx => ?_) ?_ (0, nwM c, op0, op0) ⟨Nat.zero_le _, TI.start hr⟩
  · obtain ⟨i, m, a, b⟩ := x
    obtain ⟨hi, hI⟩ := hx
    simp only at hi hI ⊢
    by_cases hlt : i < ik.len
    · cases ik with
      | nil => exact absurd hlt (Nat.not_lt_zero i)
      | row of2 cap2 L =>
        have hlt' : i < L.length := hlt
        have hlen' : (L.length : Int) ≤ 200 := hlen
        have hd : ∀ p ∈ rd of2 i L, p := pcs_of ⟨decide_eq_true (by omega), by omega, by omega, by rw [addN_eq]; omega, by rw [jv_eq]; exact hlt', trivial⟩
        cases hx : L.getD (jv of2 i) false with
        | true =>
          exact CodeC.of_run (fr := fr (.row of2 cap2 L) c m a b (i : Int) [t, t]) E50nok (p_a c m a b i of2 cap2 L) (pcs_app hd (pcs_of ⟨hx, rfl, ⟨rfl, rfl, hI.ga⟩, trivial⟩)) (show 1 ≤ 10 by omega) z1
            (.inl ⟨rfl, (i + 1, opMe a m, opSt a m, b), by rw [w64_succ i (by omega)], ⟨hlt, (hI.step hr).1⟩, by simp only; omega⟩)
        | false =>
          exact CodeC.of_run (fr := fr (.row of2 cap2 L) c m a b (i : Int) [t, f]) E50nok (p_b c m a b i of2 cap2 L) (pcs_app hd (pcs_of ⟨hx, rfl, ⟨rfl, rfl, hI.gb⟩, trivial⟩)) (show 1 ≤ 10 by omega) z1
            (.inl ⟨rfl, (i + 1, opMe b m, a, opSt b m), by rw [w64_succ i (by omega)], ⟨hlt, (hI.symm.step hr).1.symm⟩, by simp only; omega⟩)
    · exact CodeC.of_run (fr := fr ik c m a b (i : Int) [f]) E50nok (p_end c ik m a b i) (pcs_of ⟨decide_eq_false (by omega), trivial⟩) (show 1 ≤ 10 by omega) z1 (.inr ⟨by simp, rfl, m, a, b, hI, rfl⟩)
  rintro ex fr ⟨rfl, m, a, b, hI, rfl⟩
  obtain ⟨da, hA⟩ := runs hr 100 0 a m hI (by have := mu_le hI.ia; omega)
  obtain ⟨db, hB⟩ := runs hr 100 0 b (RA a m).2.2 hA.symm (by have := mu_le hA.symm.ia; omega)
  have hF := fin hB.symm da db
  have he : ∀ p ∈ ends a b m, p := pcs_of ⟨rfl, ⟨rfl, by decide, rfl, hI.ga⟩, rfl, ⟨rfl, by decide, rfl, hA.gb⟩, rfl, ⟨rfl, rfl, hA.ga.2.2⟩, rfl, ⟨rfl, rfl, hB.ga.2.2⟩, rfl, ⟨rfl, rfl, hA.ga.2.2⟩, by rw [da]; rfl, rfl, ⟨rfl, rfl, hB.ga.2.2⟩, by rw [show (RB a b m).2.1.dn = true from db]; rfl, trivial⟩
  have out : KC E50n 1 .ret [] (frE ik true) (Ev.Ends E50n fn 1 (.bool true) (iHp ik)) := by
    refine KC.done ?_
    cases ik with
    | nil => exact ⟨by simp, [.bool true], [], [0], 1, by kernel_rfl, by simp, by kernel_rfl, rfl, z1⟩
    | row of2 cap2 L => exact ⟨by simp, [.bool true], [], [0], 1, by kernel_rfl, by simp, by kernel_rfl, rfl, z1⟩
  rcases hF with ⟨x, y, z⟩ | ⟨x, y, z⟩ | ⟨x, y, z⟩
  · have x' : (RA a m).2.1.e = 0 := x
    have y' : (RB a b m).2.1.e = 0 := y
    have z' : (RA a m).2.1.h ≠ (RB a b m).2.1.h := z
    by_cases hs : c.s < 2
    · exact KC.of_exec (fr := frX ik c m a b [f, f, f, Dec.l, Dec.l, f, f, t, t]) E50nok (p_ok1 c ik m a b) (pcs_app he (pcs_of ⟨by rw [x']; rfl, by rw [x']; rfl, by rw [y']; rfl, bne_iff_ne.2 z', decide_eq_true hs, trivial⟩)) (show 1 ≤ 10 by omega) z1 out
    · refine KC.of_exec (fr := frX ik c m a b [f, f, f, Dec.l, Dec.l, f, f, t, f, t]) E50nok (p_ok c ik m a b) (pcs_app he (pcs_of ⟨by rw [x']; rfl, by rw [x']; rfl, by rw [y']; rfl, bne_iff_ne.2 z', decide_eq_false hs, by rw [x']; rfl, trivial⟩)) (show 1 ≤ 10 by omega) z1 ?_
      rw [y', beq_self_eq_true]
      exact out
  · have x' : (RA a m).2.1.e = 6 := x
    have y' : (RB a b m).2.1.e = 0 := y
    exact KC.of_exec (fr := frX ik c m a b [f, f, t, f, Dec.l, t, Dec.l, Dec.l, t]) E50nok (p_xE c ik m a b) (pcs_app he (pcs_of ⟨by rw [x']; rfl, by rw [y']; rfl, by rw [x']; rfl, decide_eq_true (by omega), trivial⟩)) (show 1 ≤ 10 by omega) z1 out
  · have x' : (RA a m).2.1.e = 0 := x
    have y' : (RB a b m).2.1.e = 6 := y
    exact KC.of_exec (fr := frX ik c m a b [f, f, f, Dec.l, Dec.l, f, t, Dec.l, t]) E50nok (p_yE c ik m a b) (pcs_app he (pcs_of ⟨by rw [x']; rfl, by rw [x']; rfl, by rw [y']; rfl, decide_eq_true (by omega), trivial⟩)) (show 1 ≤ 10 by omega) z1 out
theorem HR_bool {ρ : Nat → Nat} {w : World} {b0 : Blk} (v0 : b0.isV = true) (h0 : ∃ o, w.heap[ρ 0]? = some o ∧ ∀ ρ', b0.sat ρ' o) : HR (fun k => k < 1) ρ ⟨[(0, b0)], 1, []⟩ w := by
  refine HR_views (hp := ⟨[(0, b0)], 1, []⟩) fun n b hb => ?_
  simp only [Hp.get, lookB] at hb
  cases hn : Nat.beq 0 n
  · simp [hn] at hb
  · simp only [hn, cond_true, Option.some.injEq] at hb
    have := beq_nat hn
    subst this; subst hb
    exact ⟨Nat.zero_lt_one, v0, h0⟩
theorem walk (c : Cfg) (v : Value) (L : List Bool) (w : World) (hl : RowB w v L) :
    Calls Try.prog fid #[c.v, v] w fun e w1 => e = .returned (.bool true) ∧ Below w.heap.size w w1 := by
  by_cases hr : c.Right
  · rcases hl with ⟨rfl, rfl⟩ | ⟨b, off, cap, rfl, hcell, hblk⟩
    · have hargs : VRL (fun k => k < 1) (fun _ => 0) (A c .nil) [c.v, .slice none 0 0] := fun ρ' ha => by
        simp [A, Bk.sv, Cfg.ren_v, ren]
      exact calls_of_C (main c .nil hr) rfl none_isV hargs (HR_none _ 1)
    · have hargs : VRL (fun k => k < 1) (fun _ => b) (A c (.row off cap L)) [c.v, .slice (some ⟨b, off, none⟩) L.length cap] := fun ρ' ha => by
        have e0 : ρ' 0 = b := ha 0 (by omega)
        simp [A, Bk.sv, Cfg.ren_v, ren, e0]
      exact calls_of_C (main c (.row off cap L) hr) rfl view_isV hargs (HR_bool (ρ := fun _ => b) rfl (sat_bools hcell hblk))
  · obtain ⟨ik, b, hv⟩ : ∃ (ik : Bk) (b : Nat), ∀ ρ' : Nat → Nat, ρ' 0 = b → ren ρ' (ik.sv 0) = v := by
      rcases hl with ⟨rfl, rfl⟩ | ⟨b, off, cap, rfl, _⟩
      · exact ⟨.nil, 0, fun _ _ => rfl⟩
      · exact ⟨.row off cap L, b, fun ρ' h => by simp [Bk.sv, ren, h]⟩
    have hargs : VRL (fun k => k < 1) (fun _ => b) (A c ik) [c.v, v] := fun ρ' ha => by
      have e0 : ρ' 0 = b := ha 0 (by omega)
      simp only [A, List.map_cons, List.map_nil, Cfg.ren_v, hv ρ' e0]
    have hz : c.len = 0 := if_neg hr
    exact true_of_path E50ok (p_nr c ik) (pcs_of ⟨by omega, by omega, by omega, by rw [hz]; rfl, rfl, rfl, trivial⟩) none_isV hargs (HR_none _ 1)
end Go.Proofs.Ytjkohcdgjlaobaa.OpenTwoDone
