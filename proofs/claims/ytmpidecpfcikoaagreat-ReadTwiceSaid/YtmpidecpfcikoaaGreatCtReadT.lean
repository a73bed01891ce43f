/- A read alone that comes again; no program in sight. -/
import Derived.Test.YtmpidecpfcikoaaGreatCtReadQ
import Derived.Test.YtmpidecpfcikoaaGreatCtConf2
namespace Go.Proofs.YtmpidecpfcikoaaGreat.Ct
open Go Go.Proofs Go.Proofs.YtmpidecpfcikoaaGreat.Ev
open Go.RowKit

theorem atI_ne {k k' x i : Int} (hx0 : 0 ≤ x) (hx1 : x ≤ 11) (hi0 : 0 ≤ i) (hi1 : i ≤ 11) (hne : k ≠ k') (h : 0 ≤ atI k x) : atI k' i ≠ atI k x := by
  unfold atI at h ⊢
  split at h
  · omega
  · rename_i h1
    rw [if_neg h1]
    split <;> omega
/-- The marks of the other kind are not told by one that is laid. -/
theorem oth_with {w k k' i s : Int} (hi0 : 0 ≤ i) (hi1 : i ≤ 11) (hne : k ≠ k') : othL (withI w k' i) k s = othL w k s := by
  unfold othL upK
  congr 1
  refine List.filter_congr fun x hx => ?_
  rw [List.mem_map] at hx
  obtain ⟨y, hy, rfl⟩ := hx
  rw [List.mem_range] at hy
  have hy0 : (0 : Int) ≤ Int.ofNat y := Int.natCast_nonneg y
  have hy1 : Int.ofNat y ≤ 11 := by show (y : Int) ≤ 11; omega
  unfold hasI
  by_cases ha : 0 ≤ atI k (Int.ofNat y)
  · rw [with_bit ha (atI_ne hy0 hy1 hi0 hi1 hne ha)]
  · rw [decide_eq_false ha, Bool.false_and, Bool.false_and]
theorem kWd_put {c : Cfg} (hr : c.Right) {i key : Int} (h0 : 0 ≤ i) (h1 : i < c.s) (k0 : 0 ≤ key) (k1 : key < c.k) (w : List Int) (v : Int) : kWd c (putS c w i v) key = kWd c w key := getW_set_ne (ix_nek hr (.inl rfl) h0 h1 k0 k1)
theorem snWd_put {c : Cfg} (hr : c.Right) {i : Int} (h0 : 0 ≤ i) (h1 : i < c.s) (w : List Int) (v : Int) : snWd c (putS c w i v) i = snWd c w i := getW_set_ne (ix_ne hr (.inl rfl) (.inr (.inl rfl)) h0 h1 h0 h1 (.inl (by decide)))
theorem ix48_ne {c : Cfg} (hr : c.Right) {x key : Int} (hx : 0 ≤ x) (k0 : 0 ≤ key) (k1 : key < c.k) : cellIx c 4 x ≠ cellIx c 8 key := by
  by_cases h : x < c.s
  · exact ix_nek hr (.inl rfl) hx h k0 k1
  · rw [ix_over (k := 4) (n := x) (.inl rfl) (by omega)]
    have := (ix_key_rng hr k0 k1).1
    omega
theorem ix45_ne {c : Cfg} (hr : c.Right) {i x : Int} (h0 : 0 ≤ i) (h1 : i < c.s) (hx : 0 ≤ x) : cellIx c 4 x ≠ cellIx c 5 i := by
  by_cases h : x < c.s
  · exact ix_ne hr (.inl rfl) (.inr (.inl rfl)) hx h h0 h1 (.inl (by decide))
  · rw [ix_over (k := 4) (n := x) (.inl rfl) (by omega)]
    have := (ix_slot_rng hr (k := 5) (.inr (.inl rfl)) h0 h1).1
    omega
theorem end_twice {c : Cfg} (hr : c.Right) {w : List Int} (hl : (w.length : Int) = c.len) (hw : WfW w) {h i key : Int} (i0 : 0 ≤ i) (i1 : i < c.s) (i2 : i ≤ 11) (k0 : 0 ≤ key) (k1 : key < c.k) (hf : fltR (sWd c w i) h = 0) :
    ((rdEnd c w i key).2 = 0 → fltR (sWd c (rdEnd c w i key).1 i) h = 0 ∧ rdEnd c (rdEnd c w i key).1 i key = rdEnd c w i key) ∧ ((rdEnd c w i key).2 ≠ 0 → fltR (sWd c (rdEnd c w i key).1 i) h ≠ 0) := by
  generalize hs : sWd c w i = s at *
  generalize hn : snWd c w i = n at *
  generalize hk : kWd c w key = kw at *
  have hsw : Wd s := by rw [← hs]; exact hw.sWd i
  have hkw : Wd kw := by rw [← hk]; exact hw.getW _
  have hL : ∀ x ∈ othL kw 1 i, 0 ≤ x ∧ x ≠ i := fun x hx => ⟨(oth_mem hx).1, (oth_mem hx).2.2.1⟩
  have hL11 : ∀ x ∈ othL kw 1 i, 0 ≤ x ∧ x ≤ 11 := fun x hx => ⟨(oth_mem hx).1, (oth_mem hx).2.1⟩
  generalize hw0 : setW w (cellIx c 8 key) (withI kw 0 i) = w0
  have hl0 : (w0.length : Int) = c.len := by rw [← hw0, setW_len]; exact hl
  have hww0 : WfW w0 := by rw [← hw0]; exact hw.setW _ (withI_rng hkw 0 i).1 (withI_rng hkw 0 i).2
  have ea : rdEnd c w i key = (putS c (acc c i 0 n w0 (othL kw 1 i)).1 i (mvI (wths 0 (acc c i 0 n w0 (othL kw 1 i)).2.1 s) (if (acc c i 0 n w0 (othL kw 1 i)).2.2 = true then 2 else 5) false), if (acc c i 0 n w0 (othL kw 1 i)).2.2 = true then 0 else 7) := by
    unfold rdEnd
    rw [hn, hk, hs, hw0]
  have hla : ((acc c i 0 n w0 (othL kw 1 i)).1.length : Int) = c.len := by rw [acc_len]; exact hl0
  cases hb : (acc c i 0 n w0 (othL kw 1 i)).2.2 with
  | false =>
    rw [hb, if_neg (by decide), if_neg (by decide)] at ea
    rw [ea]
    refine ⟨fun x => absurd (show (7 : Int) = 0 from x) (by decide), fun _ hx => ?_⟩
    have h2 := (flt_ok hx).2.1
    simp only [sWd_put_same hr i0 i1 hla] at h2
    have : nuI (mvI (wths 0 (acc c i 0 n w0 (othL kw 1 i)).2.1 s) 5 false) 27 3 = 5 := mv_nu _ _ _
    omega
  | true =>
    rw [hb, if_pos rfl, if_pos rfl] at ea
    rw [ea]
    refine ⟨fun _ => ?_, fun x => absurd rfl x⟩
    obtain ⟨a1, a2, a3, a4⟩ := acc_all hr i0 i2 (sd := 0) (by omega) (othL kw 1 i) w0 (fun x hx => (hL x hx).1) hl0 hww0 hb
    generalize hA : (acc c i 0 n w0 (othL kw 1 i)).2.1 = A at *
    obtain ⟨f1, f2, f3⟩ := flt_ok hf
    have hAs : ∀ x ∈ A, x ∈ othL kw 1 i := fun x hx => acc_sub _ _ x (by rw [hA]; exact hx)
    have es : mvI (wths 0 A s) 2 false = wths 0 A s := mv_self (by rw [wths_nu A hsw.1]; exact f2) (by rw [wths_busy]; exact f3)
    rw [es]
    have hss : sWd c (putS c (acc c i 0 n w0 (othL kw 1 i)).1 i (wths 0 A s)) i = wths 0 A s := sWd_put_same hr i0 i1 hla _
    have hkk : kWd c (putS c (acc c i 0 n w0 (othL kw 1 i)).1 i (wths 0 A s)) key = withI kw 0 i := by
      rw [kWd_put hr i0 i1 k0 k1]
      show getW (acc c i 0 n w0 (othL kw 1 i)).1 _ = _
      rw [acc_ne _ _ fun x hx => ix48_ne hr (hL x hx).1 k0 k1, ← hw0]
      have := ix_key_rng hr k0 k1
      exact getW_set_same this.1 (by rw [hl]; exact this.2)
    have hnn : snWd c (putS c (acc c i 0 n w0 (othL kw 1 i)).1 i (wths 0 A s)) i = n := by
      rw [snWd_put hr i0 i1]
      show getW (acc c i 0 n w0 (othL kw 1 i)).1 _ = _
      rw [acc_ne _ _ fun x hx => ix45_ne hr i0 i1 (hL x hx).1, ← hw0, ← hn]
      exact getW_set_ne (ix_nek hr (.inr (.inl rfl)) i0 i1 k0 k1).symm
    have hwk : setW (putS c (acc c i 0 n w0 (othL kw 1 i)).1 i (wths 0 A s)) (cellIx c 8 key) (withI (withI kw 0 i) 0 i) = putS c (acc c i 0 n w0 (othL kw 1 i)).1 i (wths 0 A s) := by
      rw [withI_has (hasI_with (by decide) (by decide) i0 i2)]
      exact setW_eq hkk
    have hoth : othL (withI kw 0 i) 1 i = othL kw 1 i := oth_with i0 i2 (by decide)
    have hst := acc_stays (c := c) (i := i) (sd := 0) (n := n) (othL kw 1 i) (acc c i 0 n w0 (othL kw 1 i)).1 fun x hx hg => a4 x hx ((a2 x (hL x hx).1).symm.trans hg)
    have hfl : (othL kw 1 i).filter (fun x => !gnW c n (acc c i 0 n w0 (othL kw 1 i)).1 x) = A := by
      rw [a1]
      exact List.filter_congr fun x hx => by rw [a2 x (hL x hx).1]
    rw [hfl] at hst
    have hac : acc c i 0 n (putS c (acc c i 0 n w0 (othL kw 1 i)).1 i (wths 0 A s)) (othL kw 1 i) = (putS c (acc c i 0 n w0 (othL kw 1 i)).1 i (wths 0 A s), A, true) := by
      rw [acc_put hr i0 i1 _ _ _ hL, hst]
    have hw2 : wths 0 A (wths 0 A s) = wths 0 A s := wths_of_has A _ (wths_has (by omega) A s fun x hx => hL11 x (hAs x hx))
    refine ⟨?_, ?_⟩
    · show fltR (sWd c (putS c _ i _) i) h = 0
      rw [hss]
      exact flt_of (by rw [wths_gen A hsw.1]; exact f1) (by rw [wths_nu A hsw.1]; exact f2) (by rw [wths_busy]; exact f3)
    · show rdEnd c (putS c _ i _) i key = _
      unfold rdEnd
      rw [hss, hkk, hnn, hwk, hoth, hac]
      simp only [if_true, hw2, es, putS_put]
theorem want_twice {c : Cfg} (hr : c.Right) {w : List Int} (hl : (w.length : Int) = c.len) (hw : WfW w) (h key : Int) :
    (rdWant c (rdWant c w h key).1 h key).1 = (rdWant c w h key).1 ∧ ((rdWant c w h key).2 = 0 ↔ (rdWant c (rdWant c w h key).1 h key).2 = 0) := by
  have same : (rdWant c w h key).1 = w → (rdWant c (rdWant c w h key).1 h key).1 = (rdWant c w h key).1 ∧ ((rdWant c w h key).2 = 0 ↔ (rdWant c (rdWant c w h key).1 h key).2 = 0) := fun e => by
    rw [e]
    exact ⟨e, Iff.rfl⟩
  by_cases he : rdNewE c h key = 0
  · by_cases hf : fltR (sWd c w (tkS h)) h = 0
    · obtain ⟨k0, k1, ho⟩ := newE_ok he
      obtain ⟨i0, i1, i2⟩ := ofOk_rng ho
      have e1 : rdWant c w h key = rdEnd c w (tkS h) key := by unfold rdWant; rw [if_neg (fun x => x he), if_neg (fun x => x hf)]
      obtain ⟨t1, t2⟩ := end_twice hr hl hw i0 i1 i2 k0 k1 hf
      rw [e1]
      by_cases hz : (rdEnd c w (tkS h) key).2 = 0
      · obtain ⟨t3, t4⟩ := t1 hz
        have e2 : rdWant c (rdEnd c w (tkS h) key).1 h key = rdEnd c w (tkS h) key := by
          unfold rdWant; rw [if_neg (fun x => x he), if_neg (fun x => x t3), t4]
        rw [e2]
        exact ⟨rfl, Iff.rfl⟩
      · have t3 := t2 hz
        have e2 : rdWant c (rdEnd c w (tkS h) key).1 h key = ((rdEnd c w (tkS h) key).1, fltR (sWd c (rdEnd c w (tkS h) key).1 (tkS h)) h) := by
          unfold rdWant; rw [if_neg (fun x => x he), if_pos t3]
        rw [e2]
        exact ⟨rfl, ⟨fun x => absurd x hz, fun x => absurd x t3⟩⟩
    · exact same (by unfold rdWant; rw [if_neg (fun x => x he), if_pos hf])
  · exact same (by unfold rdWant; rw [if_pos he])
end Go.Proofs.YtmpidecpfcikoaaGreat.Ct
