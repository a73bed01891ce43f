/- What a write alone comes to, told by the laying of conflicts as the document does, and what it changes; no program in sight. -/
import Derived.Test.YtocfhiafegkfkaaGreatCtCf
import Derived.Test.YtocfhiafegkfkaaGreatCtAl13
import Derived.Test.YtocfhiafegkfkaaGreatCtWriteU
namespace Go.Proofs.YtocfhiafegkfkaaGreat.Ct
open Go Go.Proofs Go.Proofs.YtocfhiafegkfkaaGreat.Ev
open Go.RowKit

theorem wrEnd_cfs {c : Cfg} (hr : c.Right) {w : List Int} (hl : (w.length : Int) = c.len) (hw : WfW w) {h i key : Int} (i0 : 0 ≤ i) (i1 : i < c.s) (k0 : 0 ≤ key) (k1 : key < c.k) (hf : fltR (sWd c w i) h = 0) (hcl : wrClash c w i key = false) {w0 : List Int} (hw0 : setW w (cellIx c 8 key) (withI (kWd c w key) 1 i) = w0) {W : List Int × Bool} (hW : cfs c i 1 (snWd c w0 i) w0 (othL (kWd c w key) 0 i) = W) :
    wrEnd c w i key = (if W.2 = true then W.1 else putS c W.1 i (mvI (sWd c W.1 i) 5 false), if W.2 = true then 0 else 7) := by
  subst hW
  obtain ⟨f1, f2, f3⟩ := flt_ok hf
  have hL : ∀ x ∈ othL (kWd c w key) 0 i, 0 ≤ x ∧ x ≠ i := fun x hx => ⟨(oth_mem hx).1, (oth_mem hx).2.2.1⟩
  have hl0 : (w0.length : Int) = c.len := by rw [← hw0, setW_len]; exact hl
  have es : sWd c w0 i = sWd c w i := by
    rw [← hw0]
    exact getW_set_ne (ix_nek hr (.inl rfl) i0 i1 k0 k1).symm
  have en : snWd c w0 i = snWd c w i := by
    rw [← hw0]
    exact getW_set_ne (ix_nek hr (.inr (.inl rfl)) i0 i1 k0 k1).symm
  have hcf := cfs_acc hr (i := i) (sd := 1) (n := snWd c w i) i0 i1 (othL (kWd c w key) 0 i) w0 (sWd c w i) hL hl0
  rw [show putS c w0 i (sWd c w i) = w0 by rw [← es]; exact putS_self c w0 i] at hcf
  rw [en, hcf]
  unfold wrEnd
  rw [if_neg (by rw [hcl]; decide)]
  unfold wrA
  rw [hw0]
  have hla : ((acc c i 1 (snWd c w i) w0 (othL (kWd c w key) 0 i)).1.length : Int) = c.len := by rw [acc_len]; exact hl0
  have hsw : Wd (sWd c w i) := hw.sWd i
  generalize sWd c w i = s at *
  generalize hA : (acc c i 1 (snWd c w i) w0 (othL (kWd c w key) 0 i)) = A at *
  cases hb : A.2.2 with
  | true =>
    simp only [if_true]
    rw [mv_self (by rw [wths_nu _ hsw.1]; exact f2) (by rw [wths_busy]; exact f3)]
  | false =>
    simp only [Bool.false_eq_true, if_false]
    rw [sWd_put_same hr i0 i1 hla, putS_put]
theorem wwant_key {c : Cfg} {w : List Int} {h key : Int} (hk : key < 0 ∨ key ≥ c.k) : wrWant c w h key = (w, 5) := by
  have e : rdNewE c h key = 5 := by
    unfold rdNewE
    rcases hk with h | h
    · rw [if_pos h]
    · by_cases h0 : key < 0
      · rw [if_pos h0]
      · rw [if_neg h0, if_pos h]
  unfold wrWant
  rw [e, if_pos (by decide)]
theorem wwant_bar {c : Cfg} {w : List Int} {h key : Int} (k0 : ¬ key < 0) (k1 : ¬ key ≥ c.k) (hb : brI c w h ≠ 0) : wrWant c w h key = (w, brI c w h) := by
  unfold wrWant rdNewE
  rw [if_neg k0, if_neg k1]
  unfold brI at hb ⊢
  cases ho : ofOk h c.s with
  | false =>
    simp
  | true =>
    rw [ho, if_pos rfl] at hb
    rw [if_pos rfl, if_neg (by decide), if_pos rfl]
    exact if_pos hb
theorem wwant_go {c : Cfg} {w : List Int} {h key : Int} (k0 : ¬ key < 0) (k1 : ¬ key ≥ c.k) (hb : brI c w h = 0) : ofOk h c.s = true ∧ fltR (sWd c w (tkS h)) h = 0 ∧ wrWant c w h key = wrEnd c w (tkS h) key := by
  unfold brI at hb
  cases ho : ofOk h c.s with
  | false => rw [ho, if_neg (by decide)] at hb; omega
  | true =>
    rw [ho, if_pos rfl] at hb
    refine ⟨rfl, hb, ?_⟩
    unfold wrWant rdNewE
    rw [if_neg k0, if_neg k1, ho, if_pos rfl, if_neg (by decide), if_neg (show ¬ fltR (sWd c w (tkS h)) h ≠ 0 from fun x => x hb)]
theorem cfs_len (c : Cfg) (i sd n : Int) : ∀ (L w : List Int), (cfs c i sd n w L).1.length = w.length
  | [], _ => rfl
  | x :: xs, w => by
    rw [cfs_cons]
    split
    · exact cfs_len c i sd n xs w
    · split
      · rfl
      · rw [cfs_len c i sd n xs, cfTwo_len]
theorem cfs_wf {c : Cfg} {i sd n : Int} : ∀ (L w : List Int), WfW w → WfW (cfs c i sd n w L).1
  | [], _, h => h
  | x :: xs, w, h => by
    rw [cfs_cons]
    split
    · exact cfs_wf xs w h
    · split
      · exact h
      · exact cfs_wf xs _ (cfTwo_wf h i sd x)
theorem acc_at {c : Cfg} (hr : c.Right) {i sd n : Int} {p : Int} (p0 : 0 ≤ p) : ∀ (L w : List Int), (∀ x ∈ L, 0 ≤ x) → (w.length : Int) = c.len →
    getW (acc c i sd n w L).1 p = getW w p ∨ ∃ x ∈ L, cellIx c 4 x = p ∧ getW (acc c i sd n w L).1 p = withI (getW w p) (1 - sd) i
  | [], _, _, _ => .inl rfl
  | x :: xs, w, hL, hl => by
    have hL' := fun y hy => hL y (List.mem_cons_of_mem _ hy)
    unfold acc
    split
    · rcases acc_at hr p0 xs w hL' hl with e | ⟨y, hy, h1, h2⟩
      · exact .inl e
      · exact .inr ⟨y, List.mem_cons_of_mem _ hy, h1, h2⟩
    · split
      · exact .inl rfl
      · have hl1 : ((putS c w x (withI (sWd c w x) (1 - sd) i)).length : Int) = c.len := by rw [putS_len]; exact hl
        by_cases hp : cellIx c 4 x = p
        · have e1 : getW (putS c w x (withI (sWd c w x) (1 - sd) i)) p = withI (getW w p) (1 - sd) i := by
            have hxs : x < c.s := Int.lt_of_not_ge fun h => by
              rw [ix_over (k := 4) (n := x) (.inl rfl) h] at hp
              omega
            have := ix_i hr (hL x List.mem_cons_self) hxs hl
            unfold putS sWd
            rw [hp]
            exact getW_set_same (by omega) (by omega)
          rcases acc_at hr p0 xs _ hL' hl1 with e | ⟨y, hy, h1, h2⟩
          · exact .inr ⟨x, List.mem_cons_self, hp, e.trans e1⟩
          · exact .inr ⟨x, List.mem_cons_self, hp, h2.trans (by rw [e1, with_idem])⟩
        · have e1 : getW (putS c w x (withI (sWd c w x) (1 - sd) i)) p = getW w p := getW_set_ne hp
          rcases acc_at hr p0 xs _ hL' hl1 with e | ⟨y, hy, h1, h2⟩
          · exact .inl (e.trans e1)
          · exact .inr ⟨y, List.mem_cons_of_mem _ hy, h1, h2.trans (by rw [e1])⟩
theorem with_low (v x : Int) : withI v 1 x % 4096 = v % 4096 := by
  unfold withI atI
  split
  · rfl
  · rename_i h1
    have hx : 0 ≤ x ∧ x ≤ 11 := by omega
    rw [if_neg (by omega)]
    unfold putI bitI
    rw [show 12 * 1 + x = 12 + x by omega]
    rcases (show x = 0 ∨ x = 1 ∨ x = 2 ∨ x = 3 ∨ x = 4 ∨ x = 5 ∨ x = 6 ∨ x = 7 ∨ x = 8 ∨ x = 9 ∨ x = 10 ∨ x = 11 by omega) with rfl | rfl | rfl | rfl | rfl | rfl | rfl | rfl | rfl | rfl | rfl | rfl <;>
    · simp only [show pw (12 + 0) = 4096 from rfl, show pw (12 + 1) = 8192 from rfl, show pw (12 + 2) = 16384 from rfl, show pw (12 + 3) = 32768 from rfl, show pw (12 + 4) = 65536 from rfl, show pw (12 + 5) = 131072 from rfl, show pw (12 + 6) = 262144 from rfl, show pw (12 + 7) = 524288 from rfl, show pw (12 + 8) = 1048576 from rfl, show pw (12 + 9) = 2097152 from rfl, show pw (12 + 10) = 4194304 from rfl, show pw (12 + 11) = 8388608 from rfl, if_true]
      split
      · rfl
      · omega
theorem wths_low : ∀ (L : List Int) (v : Int), wths 1 L v % 4096 = v % 4096
  | [], _ => rfl
  | x :: xs, v => by
    show wths 1 xs (withI v 1 x) % 4096 = _
    rw [wths_low xs, with_low]
theorem mv_lows (v st : Int) (b : Bool) : mvI v st b % 4096 = v % 4096 := by
  unfold mvI
  cases b <;> simp only [Bool.false_eq_true, if_false, if_true] <;> omega
/-- What a write alone changes. -/
theorem wr_only {c : Cfg} (hr : c.Right) {w : List Int} (hl : (w.length : Int) = c.len) (hw : WfW w) (h key : Int) {p : Int} (p0 : 0 ≤ p) (hne : getW (wrWant c w h key).1 p ≠ getW w p) :
    (cellIx c 8 key = p ∧ getW (wrWant c w h key).1 p = withI (getW w p) 1 (brS c h)) ∨ (cellIx c 4 (brS c h) = p ∧ nuI (getW (wrWant c w h key).1 p) 30 32 = nuI (getW w p) 30 32 ∧ getW (wrWant c w h key).1 p % 4096 = getW w p % 4096) ∨ (∃ x, x ≠ brS c h ∧ cellIx c 4 x = p ∧ getW (wrWant c w h key).1 p = withI (getW w p) 0 (brS c h)) := by
  by_cases k0 : key < 0
  · exact absurd (by rw [wwant_key (.inl k0)]) hne
  by_cases k1 : key ≥ c.k
  · exact absurd (by rw [wwant_key (.inr k1)]) hne
  by_cases hb : brI c w h = 0
  · obtain ⟨ho, hf, e⟩ := wwant_go k0 k1 hb
    obtain ⟨i0, i1, i2⟩ := ofOk_rng ho
    have eS : brS c h = tkS h := if_pos ho
    rw [eS]
    rw [e] at hne ⊢
    have b8 := ix_key_rng hr (show 0 ≤ key by omega) (show key < c.k by omega)
    have hsw : Wd (sWd c w (tkS h)) := hw.sWd _
    generalize tkS h = i at *
    have hL : ∀ x ∈ othL (kWd c w key) 0 i, 0 ≤ x ∧ x ≠ i := fun x hx => ⟨(oth_mem hx).1, (oth_mem hx).2.2.1⟩
    unfold wrEnd at hne ⊢
    by_cases hcl : wrClash c w i key = true
    · rw [if_pos hcl] at hne ⊢
      simp only at hne ⊢
      by_cases hp4 : cellIx c 4 i = p
      · refine .inr (.inl ⟨hp4, ?_⟩)
        have e1 : getW (putS c w i (mvI (sWd c w i) 5 false)) p = mvI (sWd c w i) 5 false := by
          rw [← hp4]
          exact sWd_put_same hr i0 i1 hl _
        rw [e1, mv_gen, mv_lows, ← hp4]
        exact ⟨rfl, rfl⟩
      · exact absurd (getW_set_ne hp4) hne
    rw [if_neg hcl] at hne ⊢
    unfold wrA at hne ⊢
    simp only at hne ⊢
    generalize hw0 : setW w (cellIx c 8 key) (withI (kWd c w key) 1 i) = w0 at *
    have hl0 : (w0.length : Int) = c.len := by rw [← hw0, setW_len]; exact hl
    have hla : ((acc c i 1 (snWd c w i) w0 (othL (kWd c w key) 0 i)).1.length : Int) = c.len := by rw [acc_len]; exact hl0
    generalize hst : (if (acc c i 1 (snWd c w i) w0 (othL (kWd c w key) 0 i)).2.2 = true then (2 : Int) else 5) = st at *
    by_cases hp4 : cellIx c 4 i = p
    · refine .inr (.inl ⟨hp4, ?_⟩)
      have e1 : getW (putS c (acc c i 1 (snWd c w i) w0 (othL (kWd c w key) 0 i)).1 i (mvI (wths 1 (acc c i 1 (snWd c w i) w0 (othL (kWd c w key) 0 i)).2.1 (sWd c w i)) st false)) p = mvI (wths 1 (acc c i 1 (snWd c w i) w0 (othL (kWd c w key) 0 i)).2.1 (sWd c w i)) st false := by
        rw [← hp4]
        exact sWd_put_same hr i0 i1 hla _
      rw [e1, mv_gen, wths_gen _ hsw.1, mv_lows, wths_low, ← hp4]
      exact ⟨rfl, rfl⟩
    · have e1 : ∀ v, getW (putS c (acc c i 1 (snWd c w i) w0 (othL (kWd c w key) 0 i)).1 i v) p = getW (acc c i 1 (snWd c w i) w0 (othL (kWd c w key) 0 i)).1 p := fun v => getW_set_ne hp4
      rw [e1] at hne ⊢
      rcases acc_at hr (i := i) (sd := 1) (n := snWd c w i) p0 (othL (kWd c w key) 0 i) w0 (fun x hx => (hL x hx).1) hl0 with e2 | ⟨x, hx, h1, h2⟩
      · rw [e2] at hne ⊢
        by_cases hp8 : cellIx c 8 key = p
        · refine .inl ⟨hp8, ?_⟩
          rw [← hw0, ← hp8]
          exact getW_set_same b8.1 (by rw [hl]; exact b8.2)
        · exact absurd (by rw [← hw0]; exact getW_set_ne hp8) hne
      · refine .inr (.inr ⟨x, (hL x hx).2, h1, ?_⟩)
        rw [h2, show (1 : Int) - 1 = 0 by omega, ← hw0, getW_set_ne]
        rw [← h1]
        exact (ix48_ne hr (hL x hx).1 (by omega) (by omega)).symm
  · exact absurd (by rw [wwant_bar k0 k1 hb]) hne
end Go.Proofs.YtocfhiafegkfkaaGreat.Ct
