/- What a read alone changes; no program in sight. -/
import Derived.Test.YtmpidecpfcikoaaGreatCtReadU
namespace Go.Proofs.YtmpidecpfcikoaaGreat.Ct
open Go Go.Proofs Go.Proofs.YtmpidecpfcikoaaGreat.Ev
open Go.RowKit

theorem acc_at {c : Cfg} (hr : c.Right) {i sd n : Int} {p : Int} (p0 : 0 ≤ p) : ∀ (L w : List Int), (∀ x ∈ L, 0 ≤ x) → (w.length : Int) = c.len →
    getW (acc c i sd n w L).1 p = getW w p ∨ ∃ x ∈ L, cellIx c 4 x = p ∧ getW (acc c i sd n w L).1 p = withI (getW w p) (1 - sd) i
  | [], _, _, _ => .inl rfl
  | x :: xs, w, hL, hl => by
    have hL' := fun y hy => hL y (List.mem_cons_of_mem _ hy)
    unfold acc
    split
    · rcases acc_at hr p0 xs w hL' hl with e | ⟨y, hy, h1, h2⟩
      · exact .inl e
      · exact .inr ⟨y, List.mem_cons_of_mem _ hy, h1, h2⟩
    · split
      · exact .inl rfl
      · have hl1 : ((putS c w x (withI (sWd c w x) (1 - sd) i)).length : Int) = c.len := by rw [putS_len]; exact hl
        by_cases hp : cellIx c 4 x = p
        · have e1 : getW (putS c w x (withI (sWd c w x) (1 - sd) i)) p = withI (getW w p) (1 - sd) i := by
            have hxs : x < c.s := Int.lt_of_not_ge fun h => by
              rw [ix_over (k := 4) (n := x) (.inl rfl) h] at hp
              omega
            have := ix_i hr (hL x List.mem_cons_self) hxs hl
            unfold putS sWd
            rw [hp]
            exact getW_set_same (by omega) (by omega)
          rcases acc_at hr p0 xs _ hL' hl1 with e | ⟨y, hy, h1, h2⟩
          · exact .inr ⟨x, List.mem_cons_self, hp, e.trans e1⟩
          · exact .inr ⟨x, List.mem_cons_self, hp, h2.trans (by rw [e1, with_idem])⟩
        · have e1 : getW (putS c w x (withI (sWd c w x) (1 - sd) i)) p = getW w p := getW_set_ne hp
          rcases acc_at hr p0 xs _ hL' hl1 with e | ⟨y, hy, h1, h2⟩
          · exact .inl (e.trans e1)
          · exact .inr ⟨y, List.mem_cons_of_mem _ hy, h1, h2.trans (by rw [e1])⟩
theorem with_up (v x : Int) : withI v 0 x / 4096 = v / 4096 := by
  unfold withI atI
  split
  · rfl
  · rename_i h1
    have hx : 0 ≤ x ∧ x ≤ 11 := by omega
    rw [if_neg (by omega)]
    unfold putI bitI
    rw [show 12 * 0 + x = x by omega]
    rcases (show x = 0 ∨ x = 1 ∨ x = 2 ∨ x = 3 ∨ x = 4 ∨ x = 5 ∨ x = 6 ∨ x = 7 ∨ x = 8 ∨ x = 9 ∨ x = 10 ∨ x = 11 by omega) with rfl | rfl | rfl | rfl | rfl | rfl | rfl | rfl | rfl | rfl | rfl | rfl <;>
    · simp only [show pw 0 = 1 from rfl, show pw 1 = 2 from rfl, show pw 2 = 4 from rfl, show pw 3 = 8 from rfl, show pw 4 = 16 from rfl, show pw 5 = 32 from rfl, show pw 6 = 64 from rfl, show pw 7 = 128 from rfl, show pw 8 = 256 from rfl, show pw 9 = 512 from rfl, show pw 10 = 1024 from rfl, show pw 11 = 2048 from rfl, if_true]
      split
      · rfl
      · rename_i hb
        simp only [beq_iff_eq] at hb
        omega
theorem wths_up : ∀ (L : List Int) (v : Int), wths 0 L v / 4096 = v / 4096
  | [], _ => rfl
  | x :: xs, v => by
    show wths 0 xs (withI v 0 x) / 4096 = _
    rw [wths_up xs, with_up]
theorem mv_up (v st : Int) (b : Bool) : mvI v st b / 4096 % 4096 = v / 4096 % 4096 := by
  unfold mvI
  cases b <;> simp only [Bool.false_eq_true, if_false, if_true] <;> omega
/-- What a read alone changes. -/
theorem rd_only {c : Cfg} (hr : c.Right) {w : List Int} (hl : (w.length : Int) = c.len) (hw : WfW w) (h key : Int) {p : Int} (p0 : 0 ≤ p) (hne : getW (rdWant c w h key).1 p ≠ getW w p) :
    (cellIx c 8 key = p ∧ getW (rdWant c w h key).1 p = withI (getW w p) 0 (brS c h)) ∨ (cellIx c 4 (brS c h) = p ∧ nuI (getW (rdWant c w h key).1 p) 30 32 = nuI (getW w p) 30 32 ∧ getW (rdWant c w h key).1 p / 4096 % 4096 = getW w p / 4096 % 4096) ∨ (∃ x, x ≠ brS c h ∧ cellIx c 4 x = p ∧ getW (rdWant c w h key).1 p = withI (getW w p) 1 (brS c h)) := by
  by_cases k0 : key < 0
  · exact absurd (by rw [want_key (.inl k0)]) hne
  by_cases k1 : key ≥ c.k
  · exact absurd (by rw [want_key (.inr k1)]) hne
  by_cases hb : brI c w h = 0
  · obtain ⟨ho, hf, e⟩ := want_go k0 k1 hb
    obtain ⟨i0, i1, i2⟩ := ofOk_rng ho
    have eS : brS c h = tkS h := if_pos ho
    rw [eS]
    rw [e] at hne ⊢
    have b8 := ix_key_rng hr (show 0 ≤ key by omega) (show key < c.k by omega)
    have hsw : Wd (sWd c w (tkS h)) := hw.sWd _
    generalize tkS h = i at *
    have hL : ∀ x ∈ othL (kWd c w key) 1 i, 0 ≤ x ∧ x ≠ i := fun x hx => ⟨(oth_mem hx).1, (oth_mem hx).2.2.1⟩
    have h48 : cellIx c 4 i ≠ cellIx c 8 key := ix_nek hr (.inl rfl) i0 i1 (by omega) (by omega)
    unfold rdEnd at hne ⊢
    simp only at hne ⊢
    generalize hw0 : setW w (cellIx c 8 key) (withI (kWd c w key) 0 i) = w0 at *
    have hl0 : (w0.length : Int) = c.len := by rw [← hw0, setW_len]; exact hl
    have hla : ((acc c i 0 (snWd c w i) w0 (othL (kWd c w key) 1 i)).1.length : Int) = c.len := by rw [acc_len]; exact hl0
    generalize hst : (if (acc c i 0 (snWd c w i) w0 (othL (kWd c w key) 1 i)).2.2 = true then (2 : Int) else 5) = st at *
    by_cases hp4 : cellIx c 4 i = p
    · refine .inr (.inl ⟨hp4, ?_⟩)
      have e1 : getW (putS c (acc c i 0 (snWd c w i) w0 (othL (kWd c w key) 1 i)).1 i (mvI (wths 0 (acc c i 0 (snWd c w i) w0 (othL (kWd c w key) 1 i)).2.1 (sWd c w i)) st false)) p = mvI (wths 0 (acc c i 0 (snWd c w i) w0 (othL (kWd c w key) 1 i)).2.1 (sWd c w i)) st false := by
        rw [← hp4]
        exact sWd_put_same hr i0 i1 hla _
      rw [e1, mv_gen, wths_gen _ hsw.1, mv_up, wths_up, ← hp4]
      exact ⟨rfl, rfl⟩
    · have e1 : ∀ v, getW (putS c (acc c i 0 (snWd c w i) w0 (othL (kWd c w key) 1 i)).1 i v) p = getW (acc c i 0 (snWd c w i) w0 (othL (kWd c w key) 1 i)).1 p := fun v => getW_set_ne hp4
      rw [e1] at hne ⊢
      rcases acc_at hr (i := i) (sd := 0) (n := snWd c w i) p0 (othL (kWd c w key) 1 i) w0 (fun x hx => (hL x hx).1) hl0 with e2 | ⟨x, hx, h1, h2⟩
      · rw [e2] at hne ⊢
        by_cases hp8 : cellIx c 8 key = p
        · refine .inl ⟨hp8, ?_⟩
          rw [← hw0, ← hp8]
          exact getW_set_same b8.1 (by rw [hl]; exact b8.2)
        · exact absurd (by rw [← hw0]; exact getW_set_ne hp8) hne
      · refine .inr (.inr ⟨x, (hL x hx).2, h1, ?_⟩)
        rw [h2, show (1 : Int) - 0 = 1 by omega, ← hw0, getW_set_ne]
        rw [← h1]
        exact (ix48_ne hr (hL x hx).1 (by omega) (by omega)).symm
  · exact absurd (by rw [want_bar k0 k1 hb]) hne
end Go.Proofs.YtmpidecpfcikoaaGreat.Ct
