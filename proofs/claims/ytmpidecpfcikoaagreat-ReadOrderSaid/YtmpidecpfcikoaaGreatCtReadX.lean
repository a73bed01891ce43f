/- Two reads of one, in either order; no program in sight. -/
import Derived.Test.YtmpidecpfcikoaaGreatCtReadO
namespace Go.Proofs.YtmpidecpfcikoaaGreat.Ct
open Go Go.Proofs Go.Proofs.YtmpidecpfcikoaaGreat.Ev
open Go.RowKit

/-- All that go on may have it. -/
def mayAll (c : Cfg) (i n : Int) (w L : List Int) : Prop := ∀ x ∈ L, gnW c n w x = true ∨ barI (sWd c w x) 1 i = false
theorem bar_with {s i : Int} (i0 : 0 ≤ i) (i1 : i ≤ 11) : barI (withI s 1 i) 1 i = false := by
  unfold barI
  rw [hasI_with (by decide) (by decide) i0 i1]
  rfl
/-- Whether all may, and where an end is laid. -/
theorem acc_iff {c : Cfg} (hr : c.Right) {i n : Int} (i0 : 0 ≤ i) (i1 : i ≤ 11) : ∀ (L w : List Int), (∀ x ∈ L, 0 ≤ x) → (w.length : Int) = c.len → WfW w →
    ((acc c i 0 n w L).2.2 = true ↔ mayAll c i n w L)
  | [], _, _, _, _ => ⟨fun _ x hx => absurd hx (by simp), fun _ => rfl⟩
  | x :: xs, w, hL, hl, hw => by
    have hx := hL x List.mem_cons_self
    have hL' : ∀ y ∈ xs, 0 ≤ y := fun y hy => hL y (List.mem_cons_of_mem _ hy)
    unfold acc
    by_cases hg : goneI (sWd c w x) (nWd c w x) n = true
    · rw [if_pos hg, acc_iff hr i0 i1 xs w hL' hl hw]
      refine ⟨fun h y hy => ?_, fun h y hy => h y (List.mem_cons_of_mem _ hy)⟩
      rcases List.mem_cons.1 hy with rfl | hy
      · exact .inl hg
      · exact h y hy
    · rw [if_neg hg]
      have hg' : gnW c n w x = false := eq_false_of_ne_true hg
      have hxs : x < c.s := Int.lt_of_not_ge fun h => by rw [gn_over h] at hg'; cases hg'
      by_cases hb : barI (sWd c w x) (1 - 0) i = true
      · rw [if_pos hb]
        refine ⟨fun h => absurd h (by simp), fun h => ?_⟩
        rcases h x List.mem_cons_self with h | h
        · rw [hg'] at h; cases h
        · rw [show (1 : Int) - 0 = 1 by omega, h] at hb; cases hb
      · rw [if_neg hb, show (1 : Int) - 0 = 1 by omega] at *
        have hb' : barI (sWd c w x) 1 i = false := eq_false_of_ne_true hb
        have hl1 : ((putS c w x (withI (sWd c w x) 1 i)).length : Int) = c.len := by rw [putS_len]; exact hl
        have hw1 : WfW (putS c w x (withI (sWd c w x) 1 i)) := hw.putS x (withI_rng (hw.sWd x) _ _)
        have key : ∀ y, 0 ≤ y → ((gnW c n (putS c w x (withI (sWd c w x) 1 i)) y = true ∨ barI (sWd c (putS c w x (withI (sWd c w x) 1 i)) y) 1 i = false) ↔ (gnW c n w y = true ∨ barI (sWd c w y) 1 i = false)) := fun y hy => by
          rw [gn_lay hr hx hy hl hw]
          by_cases hyx : y = x
          · subst hyx
            rw [sWd_put_same hr hx hxs hl, bar_with i0 i1, hb']
          · rw [sWd_put_ne hr hx hxs hy hyx]
        show (acc c i 0 n (putS c w x (withI (sWd c w x) 1 i)) xs).2.2 = true ↔ _
        rw [acc_iff hr i0 i1 xs _ hL' hl1 hw1]
        refine ⟨fun h y hy => ?_, fun h y hy => (key y (hL' y hy)).2 (h y (List.mem_cons_of_mem _ hy))⟩
        rcases List.mem_cons.1 hy with rfl | hy
        · exact .inr hb'
        · exact (key y (hL' y hy)).1 (h y hy)
/-- One of the others' statuses, of one that goes on. -/
def onS (c : Cfg) (n : Int) (w L : List Int) (p : Int) : Prop := ∃ x ∈ L, gnW c n w x = false ∧ cellIx c 4 x = p
theorem acc_val {c : Cfg} (hr : c.Right) {i n : Int} : ∀ (L w : List Int), (∀ x ∈ L, 0 ≤ x) → (w.length : Int) = c.len → WfW w → (acc c i 0 n w L).2.2 = true → ∀ p, 0 ≤ p →
    (onS c n w L p → getW (acc c i 0 n w L).1 p = withI (getW w p) 1 i) ∧ (¬ onS c n w L p → getW (acc c i 0 n w L).1 p = getW w p)
  | [], _, _, _, _, _, p, _ => ⟨fun ⟨x, hx, _⟩ => absurd hx (by simp), fun _ => rfl⟩
  | x :: xs, w, hL, hl, hw, hm, p, p0 => by
    have hx := hL x List.mem_cons_self
    have hL' : ∀ y ∈ xs, 0 ≤ y := fun y hy => hL y (List.mem_cons_of_mem _ hy)
    unfold acc at hm ⊢
    by_cases hg : goneI (sWd c w x) (nWd c w x) n = true
    · rw [if_pos hg] at hm ⊢
      obtain ⟨h1, h2⟩ := acc_val hr xs w hL' hl hw hm p p0
      have e : onS c n w (x :: xs) p ↔ onS c n w xs p := ⟨fun ⟨y, hy, g, hp⟩ => by
        rcases List.mem_cons.1 hy with rfl | hy
        · rw [show gnW c n w y = true from hg] at g; cases g
        · exact ⟨y, hy, g, hp⟩, fun ⟨y, hy, g, hp⟩ => ⟨y, List.mem_cons_of_mem _ hy, g, hp⟩⟩
      exact ⟨fun h => h1 (e.1 h), fun h => h2 fun h' => h (e.2 h')⟩
    · rw [if_neg hg] at hm ⊢
      have hg' : gnW c n w x = false := eq_false_of_ne_true hg
      have hxs : x < c.s := Int.lt_of_not_ge fun h => by rw [gn_over h] at hg'; cases hg'
      by_cases hb : barI (sWd c w x) (1 - 0) i = true
      · rw [if_pos hb] at hm; cases hm
      · rw [if_neg hb] at hm ⊢
        simp only [show (1 : Int) - 0 = 1 by omega] at hm ⊢
        have hl1 : ((putS c w x (withI (sWd c w x) 1 i)).length : Int) = c.len := by rw [putS_len]; exact hl
        have hw1 : WfW (putS c w x (withI (sWd c w x) 1 i)) := hw.putS x (withI_rng (hw.sWd x) _ _)
        obtain ⟨h1, h2⟩ := acc_val hr xs _ hL' hl1 hw1 hm p p0
        have hgn : ∀ y, 0 ≤ y → gnW c n (putS c w x (withI (sWd c w x) 1 i)) y = gnW c n w y := fun y hy => gn_lay hr hx hy hl hw
        have e : onS c n (putS c w x (withI (sWd c w x) 1 i)) xs p ↔ onS c n w xs p := ⟨fun ⟨y, hy, g, hp⟩ => ⟨y, hy, (hgn y (hL' y hy)).symm.trans g, hp⟩, fun ⟨y, hy, g, hp⟩ => ⟨y, hy, (hgn y (hL' y hy)).trans g, hp⟩⟩
        have hi := ix_i hr hx hxs hl
        by_cases hp : cellIx c 4 x = p
        · have e1 : getW (putS c w x (withI (sWd c w x) 1 i)) p = withI (getW w p) 1 i := by
            unfold putS sWd
            rw [hp]
            exact getW_set_same (by omega) (by omega)
          refine ⟨fun _ => ?_, fun h => absurd ⟨x, List.mem_cons_self, hg', hp⟩ h⟩
          by_cases hs : onS c n w xs p
          · rw [h1 (e.2 hs), e1, with_idem]
          · rw [h2 fun h => hs (e.1 h), e1]
        · have e1 : getW (putS c w x (withI (sWd c w x) 1 i)) p = getW w p := getW_set_ne hp
          rw [e1] at h1 h2
          refine ⟨fun ⟨y, hy, g, hq⟩ => ?_, fun h => h2 fun h' => h ?_⟩
          · rcases List.mem_cons.1 hy with rfl | hy
            · exact absurd hq hp
            · exact h1 (e.2 ⟨y, hy, g, hq⟩)
          · obtain ⟨y, hy, g, hq⟩ := e.1 h'
            exact ⟨y, List.mem_cons_of_mem _ hy, g, hq⟩
theorem wths_with (sd x : Int) : ∀ (L : List Int) (v : Int), wths sd L (withI v sd x) = withI (wths sd L v) sd x
  | [], _ => rfl
  | y :: ys, v => by
    show wths sd ys (withI (withI v sd x) sd y) = withI (wths sd ys (withI v sd y)) sd x
    rw [with_comm, wths_with sd x ys]
theorem wths_comm (sd : Int) : ∀ (L M : List Int) (v : Int), wths sd L (wths sd M v) = wths sd M (wths sd L v)
  | [], _, _ => rfl
  | y :: ys, M, v => by
    show wths sd ys (withI (wths sd M v) sd y) = wths sd M (wths sd ys (withI v sd y))
    rw [← wths_with, wths_comm sd ys M]
/-- What a read that may leaves. -/
structure RdE (c : Cfg) (i key : Int) (w E : List Int) : Prop where
  len : E.length = w.length
  wf : WfW E
  own : getW E (cellIx c 4 i) = wths 0 ((othL (kWd c w key) 1 i).filter (fun x => !gnW c (snWd c w i) w x)) (sWd c w i)
  kwd : getW E (cellIx c 8 key) = withI (kWd c w key) 0 i
  on : ∀ p, 0 ≤ p → p ≠ cellIx c 4 i → p ≠ cellIx c 8 key → onS c (snWd c w i) w (othL (kWd c w key) 1 i) p → getW E p = withI (getW w p) 1 i
  off : ∀ p, 0 ≤ p → p ≠ cellIx c 4 i → p ≠ cellIx c 8 key → ¬ onS c (snWd c w i) w (othL (kWd c w key) 1 i) p → getW E p = getW w p
theorem rd_E {c : Cfg} (hr : c.Right) {w : List Int} (hl : (w.length : Int) = c.len) (hw : WfW w) {h i key : Int} (i0 : 0 ≤ i) (i1 : i < c.s) (i2 : i ≤ 11) (k0 : 0 ≤ key) (k1 : key < c.k) (hf : fltR (sWd c w i) h = 0) :
    ((rdEnd c w i key).2 = 0 ↔ mayAll c i (snWd c w i) w (othL (kWd c w key) 1 i)) ∧ ((rdEnd c w i key).2 = 0 → RdE c i key w (rdEnd c w i key).1) := by
  obtain ⟨f1, f2, f3⟩ := flt_ok hf
  have hs : Wd (sWd c w i) := hw.sWd i
  have hkw : Wd (kWd c w key) := hw.getW _
  have b8 := ix_key_rng hr k0 k1
  have b4 := ix_slot_rng hr (k := 4) (.inl rfl) i0 i1
  have h48 : cellIx c 4 i ≠ cellIx c 8 key := ix_nek hr (.inl rfl) i0 i1 k0 k1
  have hL : ∀ x ∈ othL (kWd c w key) 1 i, 0 ≤ x ∧ x ≠ i := fun x hx => ⟨(oth_mem hx).1, (oth_mem hx).2.2.1⟩
  obtain ⟨w0, hw0⟩ : ∃ w0, setW w (cellIx c 8 key) (withI (kWd c w key) 0 i) = w0 := ⟨_, rfl⟩
  have hl0 : (w0.length : Int) = c.len := by rw [← hw0, setW_len]; exact hl
  have hww : WfW w0 := by rw [← hw0]; exact hw.setW _ (withI_rng hkw _ _).1 (withI_rng hkw _ _).2
  have hne8 : ∀ p, p ≠ cellIx c 8 key → getW w0 p = getW w p := fun p hp => by rw [← hw0]; exact getW_set_ne (Ne.symm hp)
  have hg0 : ∀ y, 0 ≤ y → gnW c (snWd c w i) w0 y = gnW c (snWd c w i) w y := fun y y0 => by
    by_cases ys : y < c.s
    · unfold gnW
      rw [show sWd c w0 y = sWd c w y from hne8 _ (ix_nek hr (.inl rfl) y0 ys k0 k1), show nWd c w0 y = nWd c w y from hne8 _ (ix_nek hr (.inr (.inr (.inl rfl))) y0 ys k0 k1)]
    · rw [gn_over (by omega), gn_over (by omega)]
  have hs0 : ∀ y, 0 ≤ y → sWd c w0 y = sWd c w y := fun y y0 => hne8 _ (ix48_ne hr y0 k0 k1)
  have hon : ∀ p, onS c (snWd c w i) w0 (othL (kWd c w key) 1 i) p ↔ onS c (snWd c w i) w (othL (kWd c w key) 1 i) p := fun p => ⟨fun ⟨y, hy, g, hp⟩ => ⟨y, hy, (hg0 y (hL y hy).1).symm.trans g, hp⟩, fun ⟨y, hy, g, hp⟩ => ⟨y, hy, (hg0 y (hL y hy).1).trans g, hp⟩⟩
  have hmay : mayAll c i (snWd c w i) w0 (othL (kWd c w key) 1 i) ↔ mayAll c i (snWd c w i) w (othL (kWd c w key) 1 i) :=
    ⟨fun h y hy => by have := h y hy; rwa [hg0 y (hL y hy).1, hs0 y (hL y hy).1] at this, fun h y hy => by rw [hg0 y (hL y hy).1, hs0 y (hL y hy).1]; exact h y hy⟩
  have hacc := acc_iff hr (n := snWd c w i) i0 i2 (othL (kWd c w key) 1 i) w0 (fun x hx => (hL x hx).1) hl0 hww
  have hE : rdEnd c w i key = (putS c (acc c i 0 (snWd c w i) w0 (othL (kWd c w key) 1 i)).1 i (mvI (wths 0 (acc c i 0 (snWd c w i) w0 (othL (kWd c w key) 1 i)).2.1 (sWd c w i)) (if (acc c i 0 (snWd c w i) w0 (othL (kWd c w key) 1 i)).2.2 = true then 2 else 5) false), if (acc c i 0 (snWd c w i) w0 (othL (kWd c w key) 1 i)).2.2 = true then 0 else 7) := by
    unfold rdEnd
    rw [hw0]
  have h2 : (rdEnd c w i key).2 = 0 ↔ (acc c i 0 (snWd c w i) w0 (othL (kWd c w key) 1 i)).2.2 = true := by
    rw [hE]
    cases (acc c i 0 (snWd c w i) w0 (othL (kWd c w key) 1 i)).2.2 <;> simp
  refine ⟨h2.trans (hacc.trans hmay), fun hok => ?_⟩
  have hb := h2.1 hok
  rw [hE, hb, if_pos rfl]
  obtain ⟨a1, _, _, _⟩ := acc_all hr i0 i2 (sd := 0) (by omega) (othL (kWd c w key) 1 i) w0 (fun x hx => (hL x hx).1) hl0 hww hb
  have hv := acc_val hr (othL (kWd c w key) 1 i) w0 (fun x hx => (hL x hx).1) hl0 hww hb
  have hwa : WfW (acc c i 0 (snWd c w i) w0 (othL (kWd c w key) 1 i)).1 := acc_wf _ _ hww
  have hla : ((acc c i 0 (snWd c w i) w0 (othL (kWd c w key) 1 i)).1.length : Int) = c.len := by rw [acc_len]; exact hl0
  have ea : (acc c i 0 (snWd c w i) w0 (othL (kWd c w key) 1 i)).2.1 = (othL (kWd c w key) 1 i).filter (fun x => !gnW c (snWd c w i) w x) := by
    rw [a1]
    exact List.filter_congr fun x hx => by rw [hg0 x (hL x hx).1]
  rw [ea]
  have es : mvI (wths 0 ((othL (kWd c w key) 1 i).filter (fun x => !gnW c (snWd c w i) w x)) (sWd c w i)) 2 false = wths 0 ((othL (kWd c w key) 1 i).filter (fun x => !gnW c (snWd c w i) w x)) (sWd c w i) := mv_self (by rw [wths_nu _ hs.1]; exact f2) (by rw [wths_busy]; exact f3)
  rw [es]
  have hp4 : ∀ p v, p ≠ cellIx c 4 i → getW (putS c (acc c i 0 (snWd c w i) w0 (othL (kWd c w key) 1 i)).1 i v) p = getW (acc c i 0 (snWd c w i) w0 (othL (kWd c w key) 1 i)).1 p := fun p v hp => getW_set_ne (Ne.symm hp)
  refine ⟨by rw [putS_len, acc_len, ← hw0, setW_len], hwa.putS i (wths_wd _ hs), sWd_put_same hr i0 i1 hla _, ?_, fun p p0 n4 n8 hs => ?_, fun p p0 n4 n8 hs => ?_⟩
  · show getW (putS c _ i _) _ = _
    rw [hp4 _ _ h48.symm, (hv _ b8.1).2 fun ⟨y, hy, _, hq⟩ => ix48_ne hr (hL y hy).1 k0 k1 hq, ← hw0]
    exact getW_set_same b8.1 (by rw [hl]; exact b8.2)
  · show getW (putS c _ i _) _ = _
    rw [hp4 _ _ n4, (hv p p0).1 ((hon p).2 hs), hne8 p n8]
  · show getW (putS c _ i _) _ = _
    rw [hp4 _ _ n4, (hv p p0).2 (fun h => hs ((hon p).1 h)), hne8 p n8]
theorem RdE.next {c : Cfg} (hr : c.Right) {w E : List Int} (hw : WfW w) {i k1 k2 : Int} (hE : RdE c i k1 w E) (i0 : 0 ≤ i) (i1 : i < c.s) (a0 : 0 ≤ k1) (a1 : k1 < c.k) (b0 : 0 ≤ k2) (b1 : k2 < c.k) (hne : k1 ≠ k2) :
    kWd c E k2 = kWd c w k2 ∧ snWd c E i = snWd c w i ∧ ∀ n y, 0 ≤ y → y ≠ i → gnW c n E y = gnW c n w y := by
  have hL : ∀ x ∈ othL (kWd c w k1) 1 i, 0 ≤ x ∧ x ≠ i := fun x hx => ⟨(oth_mem hx).1, (oth_mem hx).2.2.1⟩
  have b8 := ix_key_rng hr b0 b1
  have h88 : cellIx c 8 k2 ≠ cellIx c 8 k1 := by rw [ix_key hr b0 b1, ix_key hr a0 a1]; omega
  have b5 := ix_slot_rng hr (k := 5) (.inr (.inl rfl)) i0 i1
  refine ⟨?_, ?_, fun n y y0 yn => ?_⟩
  · exact hE.off _ b8.1 (ix48_ne hr i0 b0 b1).symm h88 fun ⟨x, hx, _, hp⟩ => ix48_ne hr (hL x hx).1 b0 b1 hp
  · exact hE.off _ b5.1 (ix45_ne hr i0 i1 i0).symm (ix_nek hr (.inr (.inl rfl)) i0 i1 a0 a1) fun ⟨x, hx, _, hp⟩ => ix45_ne hr i0 i1 (hL x hx).1 hp
  · by_cases ys : y < c.s
    · have c4 := ix_slot_rng hr (k := 4) (.inl rfl) y0 ys
      have c6 := ix_slot_rng hr (k := 6) (.inr (.inr (.inl rfl))) y0 ys
      have n4 : cellIx c 4 y ≠ cellIx c 4 i := ix4_ne hr y0 ys i0 (Ne.symm yn)
      have n8 : cellIx c 4 y ≠ cellIx c 8 k1 := ix_nek hr (.inl rfl) y0 ys a0 a1
      have e6 : nWd c E y = nWd c w y := hE.off _ c6.1 (ix46_ne hr i0 i1 y0).symm (ix_nek hr (.inr (.inr (.inl rfl))) y0 ys a0 a1) fun ⟨x, hx, g, hp⟩ => by
        have xs : x < c.s := Int.lt_of_not_ge fun h => by rw [gn_over h] at g; cases g
        exact ix46_ne hr (hL x hx).1 xs y0 hp
      unfold gnW
      rw [e6]
      by_cases ho : onS c (snWd c w i) w (othL (kWd c w k1) 1 i) (cellIx c 4 y)
      · have e4 : sWd c E y = withI (sWd c w y) 1 i := hE.on _ c4.1 n4 n8 ho
        obtain ⟨x, hx, _, hp⟩ := ho
        rw [e4]
        exact gone_with (hw.sWd y).1 _ _ _ _
      · have e4 : sWd c E y = sWd c w y := hE.off _ c4.1 n4 n8 ho
        rw [e4]
    · rw [gn_over (by omega), gn_over (by omega)]
/-- The second read may, where all that go on may, as the words were before the first one. -/
theorem rd_second {c : Cfg} (hr : c.Right) {w E : List Int} (hl : (w.length : Int) = c.len) (hw : WfW w) {h i k1 k2 : Int} (hE : RdE c i k1 w E) (i0 : 0 ≤ i) (i1 : i < c.s) (i2 : i ≤ 11) (a0 : 0 ≤ k1) (a1 : k1 < c.k) (b0 : 0 ≤ k2) (b1 : k2 < c.k) (hne : k1 ≠ k2) (hf : fltR (sWd c w i) h = 0) (hm : mayAll c i (snWd c w i) w (othL (kWd c w k1) 1 i)) :
    fltR (sWd c E i) h = 0 ∧ ((rdEnd c E i k2).2 = 0 ↔ mayAll c i (snWd c w i) w (othL (kWd c w k2) 1 i)) ∧ ((rdEnd c E i k2).2 = 0 → RdE c i k2 E (rdEnd c E i k2).1) := by
  obtain ⟨e1, e2, e3⟩ := hE.next hr hw i0 i1 a0 a1 b0 b1 hne
  have hs : Wd (sWd c w i) := hw.sWd i
  have hfE : fltR (sWd c E i) h = 0 := by
    obtain ⟨f1, f2, f3⟩ := flt_ok hf
    rw [show sWd c E i = _ from hE.own]
    exact flt_of (by rw [wths_gen _ hs.1]; exact f1) (by rw [wths_nu _ hs.1]; exact f2) (by rw [wths_busy]; exact f3)
  have hlE : (E.length : Int) = c.len := by rw [hE.len]; exact hl
  obtain ⟨r1, r2⟩ := rd_E hr hlE hE.wf i0 i1 i2 b0 b1 hfE
  refine ⟨hfE, r1.trans ?_, r2⟩
  rw [e1, e2]
  have hL2 : ∀ x ∈ othL (kWd c w k2) 1 i, 0 ≤ x ∧ x ≠ i := fun x hx => ⟨(oth_mem hx).1, (oth_mem hx).2.2.1⟩
  have key : ∀ y, 0 ≤ y → y ≠ i → ((gnW c (snWd c w i) E y = true ∨ barI (sWd c E y) 1 i = false) ↔ (gnW c (snWd c w i) w y = true ∨ barI (sWd c w y) 1 i = false)) := fun y y0 yn => by
    rw [e3 _ y y0 yn]
    by_cases ys : y < c.s
    · have c4 := ix_slot_rng hr (k := 4) (.inl rfl) y0 ys
      have n4 : cellIx c 4 y ≠ cellIx c 4 i := ix4_ne hr y0 ys i0 (Ne.symm yn)
      have n8 : cellIx c 4 y ≠ cellIx c 8 k1 := ix_nek hr (.inl rfl) y0 ys a0 a1
      by_cases ho : onS c (snWd c w i) w (othL (kWd c w k1) 1 i) (cellIx c 4 y)
      · have e4 : sWd c E y = withI (sWd c w y) 1 i := hE.on _ c4.1 n4 n8 ho
        obtain ⟨x, hx, g, hp⟩ := ho
        have xs : x < c.s := Int.lt_of_not_ge fun h => by rw [gn_over h] at g; cases g
        have exy : x = y := Decidable.byContradiction fun hxy => ix4_ne hr (oth_mem hx).1 xs y0 (Ne.symm hxy) hp
        subst exy
        rw [e4, bar_with i0 i2]
        rcases hm x hx with h | h
        · rw [g] at h; cases h
        · rw [h]
      · have e4 : sWd c E y = sWd c w y := hE.off _ c4.1 n4 n8 ho
        rw [e4]
    · rw [gn_over (by omega)]
      simp
  exact ⟨fun h y hy => (key y (hL2 y hy).1 (hL2 y hy).2).1 (h y hy), fun h y hy => (key y (hL2 y hy).1 (hL2 y hy).2).2 (h y hy)⟩
theorem rd_words {c : Cfg} (hr : c.Right) {w E F B Y : List Int} (hw : WfW w) {i k1 k2 : Int} (i0 : 0 ≤ i) (i1 : i < c.s) (a0 : 0 ≤ k1) (a1 : k1 < c.k) (b0 : 0 ≤ k2) (b1 : k2 < c.k) (hne : k1 ≠ k2) (hE : RdE c i k1 w E) (hB : RdE c i k2 E B) (hF : RdE c i k2 w F) (hY : RdE c i k1 F Y) : B = Y := by
  obtain ⟨e1, e2, e3⟩ := hE.next hr hw i0 i1 a0 a1 b0 b1 hne
  obtain ⟨d1, d2, d3⟩ := hF.next hr hw i0 i1 b0 b1 a0 a1 (Ne.symm hne)
  have b8 := ix_key_rng hr b0 b1
  have a8 := ix_key_rng hr a0 a1
  have h88 : cellIx c 8 k1 ≠ cellIx c 8 k2 := by rw [ix_key hr b0 b1, ix_key hr a0 a1]; omega
  have hL1 : ∀ x ∈ othL (kWd c w k1) 1 i, 0 ≤ x ∧ x ≠ i := fun x hx => ⟨(oth_mem hx).1, (oth_mem hx).2.2.1⟩
  have hL2 : ∀ x ∈ othL (kWd c w k2) 1 i, 0 ≤ x ∧ x ≠ i := fun x hx => ⟨(oth_mem hx).1, (oth_mem hx).2.2.1⟩
  have g1 : (othL (kWd c w k2) 1 i).filter (fun x => !gnW c (snWd c w i) E x) = (othL (kWd c w k2) 1 i).filter (fun x => !gnW c (snWd c w i) w x) := List.filter_congr fun x hx => by rw [e3 _ x (hL2 x hx).1 (hL2 x hx).2]
  have g2 : (othL (kWd c w k1) 1 i).filter (fun x => !gnW c (snWd c w i) F x) = (othL (kWd c w k1) 1 i).filter (fun x => !gnW c (snWd c w i) w x) := List.filter_congr fun x hx => by rw [d3 _ x (hL1 x hx).1 (hL1 x hx).2]
  have o2 : ∀ p, onS c (snWd c w i) E (othL (kWd c w k2) 1 i) p ↔ onS c (snWd c w i) w (othL (kWd c w k2) 1 i) p := fun p => ⟨fun ⟨y, hy, g, hp⟩ => ⟨y, hy, (e3 _ y (hL2 y hy).1 (hL2 y hy).2).symm.trans g, hp⟩, fun ⟨y, hy, g, hp⟩ => ⟨y, hy, (e3 _ y (hL2 y hy).1 (hL2 y hy).2).trans g, hp⟩⟩
  have o1 : ∀ p, onS c (snWd c w i) F (othL (kWd c w k1) 1 i) p ↔ onS c (snWd c w i) w (othL (kWd c w k1) 1 i) p := fun p => ⟨fun ⟨y, hy, g, hp⟩ => ⟨y, hy, (d3 _ y (hL1 y hy).1 (hL1 y hy).2).symm.trans g, hp⟩, fun ⟨y, hy, g, hp⟩ => ⟨y, hy, (d3 _ y (hL1 y hy).1 (hL1 y hy).2).trans g, hp⟩⟩
  have n41 : cellIx c 8 k1 ≠ cellIx c 4 i := (ix48_ne hr i0 a0 a1).symm
  have n42 : cellIx c 8 k2 ≠ cellIx c 4 i := (ix48_ne hr i0 b0 b1).symm
  have no1 : ∀ V n L k, (∀ x ∈ L, 0 ≤ x) → 0 ≤ k → k < c.k → ¬ onS c n V L (cellIx c 8 k) := fun V n L k hx k0 k1 ⟨x, hm, _, hp⟩ => ix48_ne hr (hx x hm) k0 k1 hp
  have hp : ∀ p, 0 ≤ p → getW B p = getW Y p := fun p p0 => by
    by_cases hp4 : p = cellIx c 4 i
    · subst hp4
      rw [hB.own, hY.own, e1, e2, g1, d1, d2, g2, show sWd c E i = _ from hE.own, show sWd c F i = _ from hF.own]
      exact wths_comm 0 _ _ _
    · by_cases h1 : p = cellIx c 8 k1
      · subst h1
        rw [hY.kwd, d1, hB.off _ a8.1 n41 h88 (no1 _ _ _ _ (by rw [e1]; exact fun x hx => (hL2 x hx).1) a0 a1)]
        exact hE.kwd
      · by_cases h2 : p = cellIx c 8 k2
        · subst h2
          rw [hB.kwd, e1, hY.off _ b8.1 n42 h88.symm (no1 _ _ _ _ (by rw [d1]; exact fun x hx => (hL1 x hx).1) b0 b1)]
          exact hF.kwd.symm
        · have vE : (onS c (snWd c w i) w (othL (kWd c w k1) 1 i) p → getW E p = withI (getW w p) 1 i) ∧ (¬ onS c (snWd c w i) w (othL (kWd c w k1) 1 i) p → getW E p = getW w p) := ⟨hE.on p p0 hp4 h1, hE.off p p0 hp4 h1⟩
          have vF : (onS c (snWd c w i) w (othL (kWd c w k2) 1 i) p → getW F p = withI (getW w p) 1 i) ∧ (¬ onS c (snWd c w i) w (othL (kWd c w k2) 1 i) p → getW F p = getW w p) := ⟨hF.on p p0 hp4 h2, hF.off p p0 hp4 h2⟩
          have vB : (onS c (snWd c w i) w (othL (kWd c w k2) 1 i) p → getW B p = withI (getW E p) 1 i) ∧ (¬ onS c (snWd c w i) w (othL (kWd c w k2) 1 i) p → getW B p = getW E p) := ⟨fun h => hB.on p p0 hp4 h2 (by rw [e1, e2]; exact (o2 p).2 h), fun h => hB.off p p0 hp4 h2 (by rw [e1, e2]; exact fun h' => h ((o2 p).1 h'))⟩
          have vY : (onS c (snWd c w i) w (othL (kWd c w k1) 1 i) p → getW Y p = withI (getW F p) 1 i) ∧ (¬ onS c (snWd c w i) w (othL (kWd c w k1) 1 i) p → getW Y p = getW F p) := ⟨fun h => hY.on p p0 hp4 h1 (by rw [d1, d2]; exact (o1 p).2 h), fun h => hY.off p p0 hp4 h1 (by rw [d1, d2]; exact fun h' => h ((o1 p).1 h'))⟩
          by_cases s1 : onS c (snWd c w i) w (othL (kWd c w k1) 1 i) p
          · by_cases s2 : onS c (snWd c w i) w (othL (kWd c w k2) 1 i) p
            · rw [vB.1 s2, vY.1 s1, vE.1 s1, vF.1 s2]
            · rw [vB.2 s2, vY.1 s1, vE.1 s1, vF.2 s2]
          · by_cases s2 : onS c (snWd c w i) w (othL (kWd c w k2) 1 i) p
            · rw [vB.1 s2, vY.2 s1, vE.2 s1, vF.1 s2]
            · rw [vB.2 s2, vY.2 s1, vE.2 s1, vF.2 s2]
  have hlB : B.length = Y.length := by rw [hB.len, hE.len, hY.len, hF.len]
  refine List.ext_getElem hlB fun n h1 h2 => ?_
  have := hp n (Int.natCast_nonneg n)
  rw [getW_in (Int.natCast_nonneg n), getW_in (Int.natCast_nonneg n)] at this
  simpa [List.getD_eq_getElem?_getD, List.getElem?_eq_getElem h1, List.getElem?_eq_getElem h2] using this
theorem want_flt {c : Cfg} {w : List Int} {h key : Int} (k0 : 0 ≤ key) (k1 : key < c.k) (ho : ofOk h c.s = true) (hf : fltR (sWd c w (tkS h)) h = 0) : rdWant c w h key = rdEnd c w (tkS h) key := by
  unfold rdWant rdNewE
  rw [if_neg (show ¬ key < 0 by omega), if_neg (show ¬ key ≥ c.k by omega), ho, if_pos rfl, if_neg (by decide), if_neg (fun x => x hf)]
theorem want_zero {c : Cfg} {w : List Int} {h key : Int} (hz : (rdWant c w h key).2 = 0) : ofOk h c.s = true ∧ fltR (sWd c w (tkS h)) h = 0 := by
  unfold rdWant at hz
  by_cases he : rdNewE c h key = 0
  · rw [if_neg (fun x => x he)] at hz
    by_cases hf : fltR (sWd c w (tkS h)) h = 0
    · exact ⟨(newE_ok he).2.2, hf⟩
    · rw [if_pos hf] at hz
      exact absurd hz hf
  · rw [if_pos he] at hz
    exact absurd hz he
/-- Where the first read may, the second one may as it might have been the first. -/
theorem want_second {c : Cfg} (hr : c.Right) {w : List Int} (hl : (w.length : Int) = c.len) (hw : WfW w) (h : Int) {k1 k2 : Int} (a0 : 0 ≤ k1) (a1 : k1 < c.k) (b0 : 0 ≤ k2) (b1 : k2 < c.k) (hz : (rdWant c w h k1).2 = 0) :
    (rdWant c (rdWant c w h k1).1 h k2).2 = 0 ↔ (rdWant c w h k2).2 = 0 := by
  by_cases hne : k1 = k2
  · subst hne
    exact (want_twice hr hl hw h k1).2.symm
  · obtain ⟨ho, hf⟩ := want_zero hz
    obtain ⟨i0, i1, i2⟩ := ofOk_rng ho
    rw [want_flt a0 a1 ho hf] at hz ⊢
    rw [want_flt b0 b1 ho hf]
    obtain ⟨m1, e1⟩ := rd_E hr hl hw i0 i1 i2 a0 a1 hf
    obtain ⟨m2, _⟩ := rd_E hr hl hw i0 i1 i2 b0 b1 hf
    obtain ⟨f1, f2, _⟩ := rd_second hr hl hw (e1 hz) i0 i1 i2 a0 a1 b0 b1 hne hf (m1.1 hz)
    rw [want_flt b0 b1 ho f1]
    exact f2.trans m2.symm
theorem want_words {c : Cfg} (hr : c.Right) {w : List Int} (hl : (w.length : Int) = c.len) (hw : WfW w) (h : Int) {k1 k2 : Int} (a0 : 0 ≤ k1) (a1 : k1 < c.k) (b0 : 0 ≤ k2) (b1 : k2 < c.k) (hz : (rdWant c w h k1).2 = 0) (hz2 : (rdWant c w h k2).2 = 0) :
    (rdWant c (rdWant c w h k1).1 h k2).1 = (rdWant c (rdWant c w h k2).1 h k1).1 := by
  by_cases hne : k1 = k2
  · subst hne
    rfl
  · obtain ⟨ho, hf⟩ := want_zero hz
    obtain ⟨i0, i1, i2⟩ := ofOk_rng ho
    have hB := (want_second hr hl hw h a0 a1 b0 b1 hz).2 hz2
    have hY := (want_second hr hl hw h b0 b1 a0 a1 hz2).2 hz
    rw [want_flt a0 a1 ho hf] at hz hB ⊢
    rw [want_flt b0 b1 ho hf] at hz2 hY ⊢
    obtain ⟨m1, e1⟩ := rd_E hr hl hw i0 i1 i2 a0 a1 hf
    obtain ⟨m2, e2⟩ := rd_E hr hl hw i0 i1 i2 b0 b1 hf
    obtain ⟨f1, _, g1⟩ := rd_second hr hl hw (e1 hz) i0 i1 i2 a0 a1 b0 b1 hne hf (m1.1 hz)
    obtain ⟨f2, _, g2⟩ := rd_second hr hl hw (e2 hz2) i0 i1 i2 b0 b1 a0 a1 (Ne.symm hne) hf (m2.1 hz2)
    rw [want_flt b0 b1 ho f1] at hB ⊢
    rw [want_flt a0 a1 ho f2] at hY ⊢
    exact rd_words hr hw i0 i1 a0 a1 b0 b1 hne (e1 hz) (g1 hB) (e2 hz2) (g2 hY)
end Go.Proofs.YtmpidecpfcikoaaGreat.Ct
