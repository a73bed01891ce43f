/- A read alone that comes again; no program in sight. -/
import Derived.Test.YtocfhiafegkfkaaGreatCtBitsW
import Derived.Test.YtocfhiafegkfkaaGreatCtReadR
namespace Go.Proofs.YtocfhiafegkfkaaGreat.Ct
open Go Go.Proofs Go.Proofs.YtocfhiafegkfkaaGreat.Ev
open Go.RowKit

/-- A status's word laid. -/
def putS (c : Cfg) (w : List Int) (j v : Int) : List Int := setW w (cellIx c 4 j) v
/-- Both ends of a conflict of a side. -/
def cfTwo (c : Cfg) (w : List Int) (i sd x : Int) : List Int := putS c (putS c w x (withI (sWd c w x) (1 - sd) i)) i (withI (sWd c (putS c w x (withI (sWd c w x) (1 - sd) i)) i) sd x)
def cfs (c : Cfg) (i sd n : Int) : List Int → List Int → List Int × Bool
  | w, [] => (w, true)
  | w, x :: xs => if goneI (sWd c w x) (nWd c w x) n = true then cfs c i sd n w xs
    else if barI (sWd c w x) (1 - sd) i = true then (w, false) else cfs c i sd n (cfTwo c w i sd x) xs
/-- The others' ends alone; whose; and whether all may have it. -/
def acc (c : Cfg) (i sd n : Int) : List Int → List Int → List Int × List Int × Bool
  | w, [] => (w, [], true)
  | w, x :: xs => if goneI (sWd c w x) (nWd c w x) n = true then acc c i sd n w xs
    else if barI (sWd c w x) (1 - sd) i = true then (w, [], false)
    else ((acc c i sd n (putS c w x (withI (sWd c w x) (1 - sd) i)) xs).1, x :: (acc c i sd n (putS c w x (withI (sWd c w x) (1 - sd) i)) xs).2.1, (acc c i sd n (putS c w x (withI (sWd c w x) (1 - sd) i)) xs).2.2)
/-- The own ends. -/
def wths (sd : Int) : List Int → Int → Int
  | [], v => v
  | x :: xs, v => wths sd xs (withI v sd x)
theorem putS_len (c : Cfg) (w : List Int) (j v : Int) : (putS c w j v).length = w.length := setW_len _ _ _
theorem ix_i {c : Cfg} (hr : c.Right) {i : Int} (h0 : 0 ≤ i) (h1 : i < c.s) {w : List Int} (hl : (w.length : Int) = c.len) : 0 ≤ cellIx c 4 i ∧ cellIx c 4 i < (w.length : Int) := by
  rw [hl]
  exact ix_slot_rng hr (.inl rfl) h0 h1
theorem ix4_ne {c : Cfg} (hr : c.Right) {i x : Int} (h0 : 0 ≤ i) (h1 : i < c.s) (hx : 0 ≤ x) (hne : x ≠ i) : cellIx c 4 i ≠ cellIx c 4 x := by
  by_cases h : x < c.s
  · exact ix_ne hr (.inl rfl) (.inl rfl) h0 h1 hx h (.inr (Ne.symm hne))
  · rw [ix_over (k := 4) (n := x) (.inl rfl) (by omega)]
    have := (ix_slot_rng hr (k := 4) (.inl rfl) h0 h1).1
    omega
theorem ix46_ne {c : Cfg} (hr : c.Right) {i x : Int} (h0 : 0 ≤ i) (h1 : i < c.s) (hx : 0 ≤ x) : cellIx c 4 i ≠ cellIx c 6 x := by
  by_cases h : x < c.s
  · exact ix_ne hr (.inl rfl) (.inr (.inr (.inl rfl))) h0 h1 hx h (.inl (by decide))
  · rw [ix_over (k := 6) (n := x) (.inr (.inr (.inl rfl))) (by omega)]
    have := (ix_slot_rng hr (k := 4) (.inl rfl) h0 h1).1
    omega
theorem sWd_put_ne {c : Cfg} (hr : c.Right) {i x : Int} (h0 : 0 ≤ i) (h1 : i < c.s) (hx : 0 ≤ x) (hne : x ≠ i) (w : List Int) (v : Int) : sWd c (putS c w i v) x = sWd c w x := getW_set_ne (ix4_ne hr h0 h1 hx hne)
theorem nWd_put {c : Cfg} (hr : c.Right) {i x : Int} (h0 : 0 ≤ i) (h1 : i < c.s) (hx : 0 ≤ x) (w : List Int) (v : Int) : nWd c (putS c w i v) x = nWd c w x := getW_set_ne (ix46_ne hr h0 h1 hx)
theorem sWd_put_same {c : Cfg} (hr : c.Right) {i : Int} (h0 : 0 ≤ i) (h1 : i < c.s) {w : List Int} (hl : (w.length : Int) = c.len) (v : Int) : sWd c (putS c w i v) i = v := getW_set_same (ix_i hr h0 h1 hl).1 (ix_i hr h0 h1 hl).2
theorem putS_self (c : Cfg) (w : List Int) (i : Int) : putS c w i (sWd c w i) = w := setW_same _ _
theorem putS_put (c : Cfg) (w : List Int) (i u v : Int) : putS c (putS c w i u) i v = putS c w i v := setW_set _ _ _ _
theorem putS_comm {c : Cfg} (w : List Int) {i j : Int} (h : cellIx c 4 i ≠ cellIx c 4 j) (u v : Int) : putS c (putS c w i u) j v = putS c (putS c w j v) i u := setW_comm _ h _ _
theorem cfTwo_put {c : Cfg} (hr : c.Right) {i sd x : Int} (h0 : 0 ≤ i) (h1 : i < c.s) (hx : 0 ≤ x) (hne : x ≠ i) {w : List Int} (hl : (w.length : Int) = c.len) (v : Int) :
    cfTwo c (putS c w i v) i sd x = putS c (putS c w x (withI (sWd c w x) (1 - sd) i)) i (withI v sd x) := by
  unfold cfTwo
  rw [sWd_put_ne hr h0 h1 hx hne]
  have hn := ix4_ne hr h0 h1 hx hne
  have e : putS c (putS c w i v) x (withI (sWd c w x) (1 - sd) i) = putS c (putS c w x (withI (sWd c w x) (1 - sd) i)) i v := putS_comm w hn _ _
  rw [e, sWd_put_same hr h0 h1 (by rw [putS_len]; exact hl), putS_put]
theorem cfs_acc {c : Cfg} (hr : c.Right) {i sd n : Int} (h0 : 0 ≤ i) (h1 : i < c.s) : ∀ (L : List Int) (w : List Int) (v : Int), (∀ x ∈ L, 0 ≤ x ∧ x ≠ i) → (w.length : Int) = c.len →
    cfs c i sd n (putS c w i v) L = (putS c (acc c i sd n w L).1 i (wths sd (acc c i sd n w L).2.1 v), (acc c i sd n w L).2.2)
  | [], _, _, _, _ => rfl
  | x :: xs, w, v, hL, hl => by
    obtain ⟨hx, hne⟩ := hL x List.mem_cons_self
    have hL' := fun y hy => hL y (List.mem_cons_of_mem _ hy)
    unfold cfs acc
    rw [sWd_put_ne hr h0 h1 hx hne, nWd_put hr h0 h1 hx]
    by_cases hg : goneI (sWd c w x) (nWd c w x) n = true
    · rw [if_pos hg, if_pos hg]
      exact cfs_acc hr h0 h1 xs w v hL' hl
    · rw [if_neg hg, if_neg hg]
      by_cases hb : barI (sWd c w x) (1 - sd) i = true
      · rw [if_pos hb, if_pos hb]
        rfl
      · rw [if_neg hb, if_neg hb, cfTwo_put hr h0 h1 hx hne hl]
        exact cfs_acc hr h0 h1 xs _ _ hL' (by rw [putS_len]; exact hl)
theorem acc_len (c : Cfg) (i sd n : Int) : ∀ (L w : List Int), (acc c i sd n w L).1.length = w.length
  | [], _ => rfl
  | x :: xs, w => by
    unfold acc
    split
    · exact acc_len c i sd n xs w
    · split
      · rfl
      · rw [acc_len c i sd n xs, putS_len]
/-- What is not one of the others' statuses stays. -/
theorem acc_ne {c : Cfg} {i sd n : Int} {p : Int} : ∀ (L w : List Int), (∀ x ∈ L, cellIx c 4 x ≠ p) → getW (acc c i sd n w L).1 p = getW w p
  | [], _, _ => rfl
  | x :: xs, w, h => by
    unfold acc
    split
    · exact acc_ne xs w fun y hy => h y (List.mem_cons_of_mem _ hy)
    · split
      · rfl
      · rw [acc_ne xs _ fun y hy => h y (List.mem_cons_of_mem _ hy)]
        exact getW_set_ne (h x List.mem_cons_self)
theorem with_nn {v : Int} (h : 0 ≤ v) (sd x : Int) : 0 ≤ withI v sd x := by
  have := withI_hi h sd x
  omega
theorem wths_nu {sd : Int} : ∀ (L : List Int) {v : Int}, 0 ≤ v → nuI (wths sd L v) 27 3 = nuI v 27 3
  | [], _, _ => rfl
  | x :: xs, _, h => by
    show nuI (wths sd xs (withI _ sd x)) 27 3 = _
    rw [wths_nu xs (with_nn h sd x), nuI_with h]
theorem wths_nn {sd : Int} : ∀ (L : List Int) {v : Int}, 0 ≤ v → 0 ≤ wths sd L v
  | [], _, h => h
  | x :: xs, _, h => wths_nn xs (with_nn h sd x)
theorem wths_gen {sd : Int} : ∀ (L : List Int) {v : Int}, 0 ≤ v → nuI (wths sd L v) 30 32 = nuI v 30 32
  | [], _, _ => rfl
  | x :: xs, _, h => by
    show nuI (wths sd xs (withI _ sd x)) 30 32 = _
    rw [wths_gen xs (with_nn h sd x), with_gen h]
theorem wths_busy {sd : Int} : ∀ (L : List Int) (v : Int), bitI (wths sd L v) 26 = bitI v 26
  | [], _ => rfl
  | x :: xs, v => by
    show bitI (wths sd xs (withI v sd x)) 26 = _
    rw [wths_busy xs, with_busy]
theorem wths_mv {sd : Int} (st : Int) (b : Bool) : ∀ (L : List Int) (v : Int), wths sd L (mvI v st b) = mvI (wths sd L v) st b
  | [], _ => rfl
  | x :: xs, v => by
    show wths sd xs (withI (mvI v st b) sd x) = mvI (wths sd xs (withI v sd x)) st b
    rw [mv_with, wths_mv st b xs]
theorem wths_wd {sd : Int} : ∀ (L : List Int) {v : Int}, Wd v → Wd (wths sd L v)
  | [], _, h => h
  | x :: xs, _, h => wths_wd xs (withI_rng h sd x)
/-- All are gone: nothing is laid. -/
theorem acc_gone {c : Cfg} {i sd n : Int} : ∀ (L w : List Int), (∀ x ∈ L, goneI (sWd c w x) (nWd c w x) n = true) → acc c i sd n w L = (w, [], true)
  | [], _, _ => rfl
  | x :: xs, w, h => by
    unfold acc
    rw [if_pos (h x List.mem_cons_self)]
    exact acc_gone xs w fun y hy => h y (List.mem_cons_of_mem _ hy)
end Go.Proofs.YtocfhiafegkfkaaGreat.Ct
namespace Go.Proofs.YtocfhiafegkfkaaGreat.Ct
open Go Go.Proofs Go.Proofs.YtocfhiafegkfkaaGreat.Ev
open Go.RowKit

theorem WfW.sWd {c : Cfg} {w : List Int} (h : WfW w) (x : Int) : Wd (sWd c w x) := h.getW _
theorem WfW.putS {c : Cfg} {w : List Int} (h : WfW w) (x : Int) {v : Int} (hv : Wd v) : WfW (putS c w x v) := h.setW _ hv.1 hv.2
/-- Whether one goes on with it, by the words. -/
def gnW (c : Cfg) (n : Int) (w : List Int) (x : Int) : Bool := goneI (sWd c w x) (nWd c w x) n
theorem gone_with {s : Int} (h : 0 ≤ s) (m n a b : Int) : goneI (withI s a b) m n = goneI s m n := by
  unfold goneI
  rw [nuI_with h]
theorem sWd_put_any {c : Cfg} (hr : c.Right) {x y : Int} (hx : 0 ≤ x) (hy : 0 ≤ y) {w : List Int} (hl : (w.length : Int) = c.len) (v : Int) : sWd c (putS c w x v) y = if y = x ∧ x < c.s then v else sWd c w y := by
  by_cases h1 : x < c.s
  · by_cases h2 : y = x
    · subst h2
      rw [if_pos ⟨rfl, h1⟩, sWd_put_same hr hx h1 hl]
    · rw [if_neg (fun h => h2 h.1), sWd_put_ne hr hx h1 hy h2]
  · rw [if_neg (fun h => h1 h.2)]
    unfold putS
    rw [ix_over (.inl rfl) (by omega)]
    rfl
theorem nWd_put_any {c : Cfg} (hr : c.Right) {x y : Int} (hx : 0 ≤ x) (hy : 0 ≤ y) (w : List Int) (v : Int) : nWd c (putS c w x v) y = nWd c w y := by
  by_cases h1 : x < c.s
  · exact nWd_put hr hx h1 hy w v
  · unfold putS
    rw [ix_over (.inl rfl) (by omega)]
    rfl
/-- One end that is laid: whom it is laid to, goes on as it did. -/
theorem gn_lay {c : Cfg} (hr : c.Right) {n x y a i : Int} (hx : 0 ≤ x) (hy : 0 ≤ y) {w : List Int} (hl : (w.length : Int) = c.len) (hw : WfW w) : gnW c n (putS c w x (withI (sWd c w x) a i)) y = gnW c n w y := by
  unfold gnW
  rw [nWd_put_any hr hx hy, sWd_put_any hr hx hy hl]
  split
  · rename_i h
    rw [h.1, gone_with (hw.sWd x).1]
  · rfl
theorem has_lay {c : Cfg} (hr : c.Right) {x y a i : Int} (hx : 0 ≤ x) (hy : 0 ≤ y) {w : List Int} (hl : (w.length : Int) = c.len) {b j : Int} (h : hasI (sWd c w y) b j = true) : hasI (sWd c (putS c w x (withI (sWd c w x) a i)) y) b j = true := by
  rw [sWd_put_any hr hx hy hl]
  split
  · rename_i e
    rw [e.1] at h
    exact has_stays h _ _
  · exact h
theorem gn_over {c : Cfg} {n x : Int} {w : List Int} (h : c.s ≤ x) : gnW c n w x = true := gone_over h
/-- What a laying to the end comes to. -/
theorem acc_all {c : Cfg} (hr : c.Right) {i sd n : Int} (hi : 0 ≤ i) (hi2 : i ≤ 11) (hsd : 0 ≤ 1 - sd ∧ 1 - sd ≤ 1) : ∀ (L w : List Int), (∀ x ∈ L, 0 ≤ x) → (w.length : Int) = c.len → WfW w → (acc c i sd n w L).2.2 = true →
    (acc c i sd n w L).2.1 = L.filter (fun x => !gnW c n w x) ∧ (∀ y, 0 ≤ y → gnW c n (acc c i sd n w L).1 y = gnW c n w y) ∧ (∀ y b j, 0 ≤ y → hasI (sWd c w y) b j = true → hasI (sWd c (acc c i sd n w L).1 y) b j = true) ∧ (∀ x ∈ L, gnW c n w x = false → hasI (sWd c (acc c i sd n w L).1 x) (1 - sd) i = true)
  | [], w, _, _, _, _ => ⟨rfl, fun _ _ => rfl, fun _ _ _ _ h => h, fun x hx => absurd hx (by simp)⟩
  | x :: xs, w, hL, hl, hw, hm => by
    have hx := hL x List.mem_cons_self
    have hL' : ∀ y ∈ xs, 0 ≤ y := fun y hy => hL y (List.mem_cons_of_mem _ hy)
    unfold acc at hm ⊢
    by_cases hg : goneI (sWd c w x) (nWd c w x) n = true
    · rw [if_pos hg] at hm
      have hg' : gnW c n w x = true := hg
      rw [if_pos hg]
      obtain ⟨h1, h2, h3, h4⟩ := acc_all hr hi hi2 hsd xs w hL' hl hw hm
      refine ⟨by rw [h1, List.filter_cons_of_neg (by simp [hg'])], h2, h3, fun y hy hny => ?_⟩
      rcases List.mem_cons.1 hy with rfl | hy
      · rw [hg'] at hny; cases hny
      · exact h4 y hy hny
    · rw [if_neg hg] at hm ⊢
      have hg' : gnW c n w x = false := eq_false_of_ne_true hg
      have hxs : x < c.s := Int.lt_of_not_ge fun h => by rw [gn_over h] at hg'; cases hg'
      by_cases hb : barI (sWd c w x) (1 - sd) i = true
      · rw [if_pos hb] at hm; cases hm
      · rw [if_neg hb] at hm ⊢
        have hl1 : ((putS c w x (withI (sWd c w x) (1 - sd) i)).length : Int) = c.len := by rw [putS_len]; exact hl
        have hw1 : WfW (putS c w x (withI (sWd c w x) (1 - sd) i)) := hw.putS x (withI_rng (hw.sWd x) _ _)
        obtain ⟨h1, h2, h3, h4⟩ := acc_all hr hi hi2 hsd xs _ hL' hl1 hw1 hm
        have hgn : ∀ y, 0 ≤ y → gnW c n (putS c w x (withI (sWd c w x) (1 - sd) i)) y = gnW c n w y := fun y hy => gn_lay hr hx hy hl hw
        refine ⟨?_, fun y hy => (h2 y hy).trans (hgn y hy), fun y b j hy hh => h3 y b j hy (has_lay hr hx hy hl hh), fun y hy hny => ?_⟩
        · rw [h1, List.filter_cons_of_pos (by simp [hg'])]
          exact congrArg (List.cons x) (List.filter_congr fun y hy => by rw [hgn y (hL' y hy)])
        · rcases List.mem_cons.1 hy with rfl | hy
          · refine h3 y (1 - sd) i hx ?_
            rw [sWd_put_same hr hx hxs hl]
            exact hasI_with hsd.1 hsd.2 hi hi2
          · exact h4 y hy ((hgn y (hL' y hy)).trans hny)
/-- All that go on have it: nothing is laid. -/
theorem acc_stays {c : Cfg} {i sd n : Int} : ∀ (L w : List Int), (∀ x ∈ L, gnW c n w x = false → hasI (sWd c w x) (1 - sd) i = true) → acc c i sd n w L = (w, L.filter (fun x => !gnW c n w x), true)
  | [], _, _ => rfl
  | x :: xs, w, h => by
    have h' : ∀ y ∈ xs, gnW c n w y = false → hasI (sWd c w y) (1 - sd) i = true := fun y hy => h y (List.mem_cons_of_mem _ hy)
    unfold acc
    by_cases hg : goneI (sWd c w x) (nWd c w x) n = true
    · have hg' : gnW c n w x = true := hg
      rw [if_pos hg, acc_stays xs w h', List.filter_cons_of_neg (by simp [hg'])]
    · have hg' : gnW c n w x = false := eq_false_of_ne_true hg
      have hh := h x List.mem_cons_self hg'
      have hb : barI (sWd c w x) (1 - sd) i = false := by unfold barI; rw [hh]; rfl
      rw [if_neg hg, if_neg (by rw [hb]; decide), withI_has hh, putS_self, acc_stays xs w h', List.filter_cons_of_pos (by simp [hg'])]
theorem acc_put {c : Cfg} (hr : c.Right) {i sd n : Int} (h0 : 0 ≤ i) (h1 : i < c.s) (v : Int) : ∀ (L w : List Int), (∀ x ∈ L, 0 ≤ x ∧ x ≠ i) → acc c i sd n (putS c w i v) L = (putS c (acc c i sd n w L).1 i v, (acc c i sd n w L).2)
  | [], _, _ => rfl
  | x :: xs, w, hL => by
    obtain ⟨hx, hne⟩ := hL x List.mem_cons_self
    have hL' := fun y hy => hL y (List.mem_cons_of_mem _ hy)
    unfold acc
    rw [sWd_put_ne hr h0 h1 hx hne, nWd_put hr h0 h1 hx]
    by_cases hg : goneI (sWd c w x) (nWd c w x) n = true
    · rw [if_pos hg, if_pos hg]
      exact acc_put hr h0 h1 v xs w hL'
    · rw [if_neg hg, if_neg hg]
      by_cases hb : barI (sWd c w x) (1 - sd) i = true
      · rw [if_pos hb, if_pos hb]
      · rw [if_neg hb, if_neg hb]
        have e : putS c (putS c w i v) x (withI (sWd c w x) (1 - sd) i) = putS c (putS c w x (withI (sWd c w x) (1 - sd) i)) i v := putS_comm w (ix4_ne hr h0 h1 hx hne) _ _
        rw [e, acc_put hr h0 h1 v xs _ hL']
theorem wths_stays {sd : Int} : ∀ (L : List Int) (v : Int) {b j : Int}, hasI v b j = true → hasI (wths sd L v) b j = true
  | [], _, _, _, h => h
  | x :: xs, _, _, _, h => wths_stays xs _ (has_stays h sd x)
theorem wths_has {sd : Int} (hsd : 0 ≤ sd ∧ sd ≤ 1) : ∀ (L : List Int) (v : Int), (∀ x ∈ L, 0 ≤ x ∧ x ≤ 11) → ∀ x ∈ L, hasI (wths sd L v) sd x = true
  | [], _, _, x, hx => absurd hx (by simp)
  | y :: ys, v, h, x, hx => by
    rcases List.mem_cons.1 hx with rfl | hx
    · exact wths_stays ys _ (hasI_with hsd.1 hsd.2 (h x List.mem_cons_self).1 (h x List.mem_cons_self).2)
    · exact wths_has hsd ys _ (fun z hz => h z (List.mem_cons_of_mem _ hz)) x hx
theorem wths_of_has {sd : Int} : ∀ (L : List Int) (v : Int), (∀ x ∈ L, hasI v sd x = true) → wths sd L v = v
  | [], _, _ => rfl
  | x :: xs, v, h => by
    show wths sd xs (withI v sd x) = v
    rw [withI_has (h x List.mem_cons_self)]
    exact wths_of_has xs v fun y hy => h y (List.mem_cons_of_mem _ hy)
theorem acc_sub {c : Cfg} {i sd n : Int} : ∀ (L w : List Int), ∀ x ∈ (acc c i sd n w L).2.1, x ∈ L
  | [], _, x, hx => hx
  | y :: ys, w, x, hx => by
    unfold acc at hx
    split at hx
    · exact List.mem_cons_of_mem _ (acc_sub ys w x hx)
    · split at hx
      · exact absurd hx (by simp)
      · rcases List.mem_cons.1 hx with rfl | hx
        · exact List.mem_cons_self
        · exact List.mem_cons_of_mem _ (acc_sub ys _ x hx)
theorem acc_wf {c : Cfg} {i sd n : Int} : ∀ (L w : List Int), WfW w → WfW (acc c i sd n w L).1
  | [], _, h => h
  | x :: xs, w, h => by
    unfold acc
    split
    · exact acc_wf xs w h
    · split
      · exact h
      · exact acc_wf xs _ (h.putS x (withI_rng (h.sWd x) _ _))
end Go.Proofs.YtocfhiafegkfkaaGreat.Ct
namespace Go.Proofs.YtocfhiafegkfkaaGreat.Ct
open Go Go.Proofs Go.Proofs.YtocfhiafegkfkaaGreat.Ev
open Go.RowKit

def rdIt : Nat → Rd × Mm → Rd × Mm
  | 0, x => x
  | k + 1, x => rdIt k (rdSt x.1 x.2, rdMe x.1 x.2)
theorem rdIt_add : ∀ (a b : Nat) (x : Rd × Mm), rdIt (a + b) x = rdIt b (rdIt a x)
  | 0, b, x => by rw [Nat.zero_add]; rfl
  | a + 1, b, x => by
    rw [show a + 1 + b = (a + b) + 1 by omega]
    exact rdIt_add a b _
theorem rd_dn {o : Rd} (h : o.dn = true) (m : Mm) : rdSt o m = o ∧ rdMe o m = m := by
  have h7 : o.ph = 7 := beq_nat h
  unfold rdSt rdMe
  rw [h7]
  exact ⟨rfl, rfl⟩
theorem rdIt_dn {o : Rd} (h : o.dn = true) (m : Mm) : ∀ k, rdIt k (o, m) = (o, m)
  | 0 => rfl
  | k + 1 => by
    show rdIt k (rdSt o m, rdMe o m) = _
    rw [(rd_dn h m).1, (rd_dn h m).2]
    exact rdIt_dn h m k
theorem rdRun_it : ∀ (N i : Nat) (o : Rd) (m : Mm), (rdRun N i o m).2 = rdIt N (o, m)
  | 0, _, _, _ => rfl
  | N + 1, i, o, m => by
    unfold rdRun
    by_cases h : o.dn = true
    · rw [if_pos h, rdIt_dn h]
    · rw [if_neg h, rdRun_it N (i + 1)]
      rfl
/-- Some steps, not more than a number, come to something. -/
def RdTo (b : Nat) (x y : Rd × Mm) : Prop := ∃ k, k ≤ b ∧ rdIt k x = y
theorem RdTo.trans {a b : Nat} {x y z : Rd × Mm} (h : RdTo a x y) (h' : RdTo b y z) : RdTo (a + b) x z := by
  obtain ⟨k, hk, e⟩ := h
  obtain ⟨k', hk', e'⟩ := h'
  exact ⟨k + k', by omega, by rw [rdIt_add, e, e']⟩
theorem RdTo.mono {a b : Nat} {x y : Rd × Mm} (h : RdTo a x y) (hab : a ≤ b) : RdTo b x y := by
  obtain ⟨k, hk, e⟩ := h
  exact ⟨k, by omega, e⟩
theorem RdTo.one {r : Rd} {m : Mm} : RdTo 1 (r, m) (rdSt r m, rdMe r m) := ⟨1, Nat.le_refl _, rfl⟩
theorem RdTo.run {b N : Nat} {o o' : Rd} {m m' : Mm} (h : RdTo b (o, m) (o', m')) (hb : b ≤ N) (hd : o'.dn = true) (i : Nat) : (rdRun N i o m).2 = (o', m') := by
  obtain ⟨k, hk, e⟩ := h
  rw [rdRun_it, show N = k + (N - k) by omega, rdIt_add, e, rdIt_dn hd]
theorem rd_JE : ∀ (k : Nat) (r : Rd) (m : Mm) (j' : Jn) (m' : Mm), r.ph = 4 → JE k r.j m j' m' → RdTo k (r, m) (rdJoined r j', m')
  | 0, _, _, _, _, _, h => h.elim
  | k + 1, r, m, j', m', h4, h => by
    have e1 : rdSt r m = rdJoined r (jSt r.j m) := by unfold rdSt; rw [h4]; rfl
    have e2 : rdMe r m = jMe r.j m := by unfold rdMe; rw [h4]; rfl
    rcases h with ⟨h1, h2, _⟩ | ⟨h1, h2⟩
    · refine RdTo.mono ⟨1, Nat.le_refl _, ?_⟩ (by omega)
      show (rdSt r m, rdMe r m) = _
      rw [e1, e2, h1, h2]
    · have e3 : rdJoined r (jSt r.j m) = ⟨r.ph, r.q, r.key, r.slot, r.n, r.w, r.oth, r.no, r.told, r.at', r.en, jSt r.j m, r.o, r.lv, r.l⟩ := by
        unfold rdJoined
        rw [h1]
        rfl
      have ih := rd_JE k ⟨r.ph, r.q, r.key, r.slot, r.n, r.w, r.oth, r.no, r.told, r.at', r.en, jSt r.j m, r.o, r.lv, r.l⟩ (jMe r.j m) j' m' h4 h2
      obtain ⟨k', hk, e⟩ := ih
      refine ⟨k' + 1, by omega, ?_⟩
      show rdIt k' (rdSt r m, rdMe r m) = _
      rw [e1, e2, e3, e]
      rfl
theorem rd_OE : ∀ (k : Nat) (r : Rd) (m : Mm) (o' : On) (m' : Mm), r.ph = 5 → OE k r.o m o' m' → RdTo k (r, m) (rdOwned r o', m')
  | 0, _, _, _, _, _, h => h.elim
  | k + 1, r, m, o', m', h5, h => by
    have e1 : rdSt r m = rdOwned r (oSt r.o m) := by unfold rdSt; rw [h5]; rfl
    have e2 : rdMe r m = oMe r.o m := by unfold rdMe; rw [h5]; rfl
    rcases h with ⟨h1, h2, _⟩ | ⟨h1, h2⟩
    · refine RdTo.mono ⟨1, Nat.le_refl _, ?_⟩ (by omega)
      show (rdSt r m, rdMe r m) = _
      rw [e1, e2, h1, h2]
    · have e3 : rdOwned r (oSt r.o m) = ⟨r.ph, r.q, r.key, r.slot, r.n, r.w, r.oth, r.no, r.told, r.at', r.en, r.j, oSt r.o m, r.lv, r.l⟩ := by
        unfold rdOwned
        rw [h1]
        rfl
      have ih := rd_OE k ⟨r.ph, r.q, r.key, r.slot, r.n, r.w, r.oth, r.no, r.told, r.at', r.en, r.j, oSt r.o m, r.lv, r.l⟩ (oMe r.o m) o' m' h5 h2
      obtain ⟨k', hk, e⟩ := ih
      refine ⟨k' + 1, by omega, ?_⟩
      show rdIt k' (rdSt r m, rdMe r m) = _
      rw [e1, e2, e3, e]
      rfl
theorem rd_LE : ∀ (k : Nat) (r : Rd) (m : Mm) (o' : Lv) (m' : Mm), r.ph = 6 → LE k r.lv m o' m' → RdTo k (r, m) (rdLeft r o', m')
  | 0, _, _, _, _, _, h => h.elim
  | k + 1, r, m, o', m', h6, h => by
    have e1 : rdSt r m = rdLeft r (lSt r.lv m) := by unfold rdSt; rw [h6]; rfl
    have e2 : rdMe r m = lMe r.lv m := by unfold rdMe; rw [h6]; rfl
    rcases h with ⟨h1, h2, _⟩ | ⟨h1, h2⟩
    · refine RdTo.mono ⟨1, Nat.le_refl _, ?_⟩ (by omega)
      show (rdSt r m, rdMe r m) = _
      rw [e1, e2, h1, h2]
    · have e3 : rdLeft r (lSt r.lv m) = ⟨r.ph, r.q, r.key, r.slot, r.n, r.w, r.oth, r.no, r.told, r.at', r.en, r.j, r.o, lSt r.lv m, r.l⟩ := by
        unfold rdLeft
        rw [h1]
        rfl
      have ih := rd_LE k ⟨r.ph, r.q, r.key, r.slot, r.n, r.w, r.oth, r.no, r.told, r.at', r.en, r.j, r.o, lSt r.lv m, r.l⟩ (lMe r.lv m) o' m' h6 h2
      obtain ⟨k', hk, e⟩ := ih
      refine ⟨k' + 1, by omega, ?_⟩
      show rdIt k' (rdSt r m, rdMe r m) = _
      rw [e1, e2, e3, e]
      rfl
/-- Where a read leaves. -/
structure RdL (r : Rd) (c : Cfg) (m : Mm) (i st e : Int) : Prop where
  ph : r.ph = 6
  slot : r.slot = i
  lv : r.lv = ⟨i, 0, st, false, false⟩
  told : r.told = e
  c : m.c = c
  ok : m.ok
/-- Where it is at another one. -/
structure RdJ (r : Rd) (i n : Int) (L : List Int) (a : Nat) : Prop where
  ph : r.ph = 4
  slot : r.slot = i
  nn : r.n = n
  ll : r.l = L
  at' : r.at' = (a : Int)
  lt : a < L.length
  len : L.length ≤ 12
  j : r.j = ⟨L.getD a 0, 1, i, 0, lookF, n, 0⟩
  oth : r.oth = L.getD a 0
theorem RdJ.goes {r : Rd} {i n : Int} {L : List Int} {a : Nat} (hp : r.slot = i) (hn : r.n = n) (hl : r.l = L) (ha : r.at' = (a : Int)) (hlen : L.length ≤ 12) (hlt : a < L.length) :
    (a + 1 = L.length ∧ r.goes = r.ends (-1) 0) ∨ (a + 1 < L.length ∧ RdJ r.goes i n L (a + 1)) := by
  have eA : w64 (r.at' + 1) = ((a + 1 : Nat) : Int) := by rw [ha]; exact w64_succ a (by omega)
  unfold Rd.goes
  rw [eA, hl]
  by_cases h : a + 1 = L.length
  · exact .inl ⟨h, by rw [if_pos (decide_eq_true (by omega))]⟩
  · refine .inr ⟨by omega, ?_⟩
    rw [if_neg (by rw [decide_eq_false (by omega)]; decide)]
    exact ⟨rfl, hp, hn, rfl, rfl, by omega, hlen, by show rdJoin _ 1 r.slot r.n = _; rw [hp, hn]; rfl, rfl⟩
theorem drop_cons {L : List Int} {a : Nat} (h : a < L.length) : L.drop a = L.getD a 0 :: L.drop (a + 1) := by
  rw [List.drop_eq_getElem_cons h, List.getD_eq_getElem?_getD, List.getElem?_eq_getElem h]
  rfl
theorem w64_10 : w64 (1 - 0) = 1 := rfl
/-- From one of the others on to the leaving. -/
theorem rd_list {c : Cfg} (hr : c.Right) {i n : Int} {L : List Int} (hi0 : 0 ≤ i) (hi1 : i < c.s) (hL : ∀ x ∈ L, 0 ≤ x) : ∀ (d a : Nat) (r : Rd) (m : Mm), L.length - a = d → RdJ r i n L a → m.c = c → m.ok →
    ∃ r' m' st e, RdTo (5 * d) (r, m) (r', m') ∧ RdL r' c m' i st e ∧ ((cfs c i 0 n m.w (L.drop a) = (m'.w, true) ∧ st = -1 ∧ e = 0) ∨ (cfs c i 0 n m.w (L.drop a) = (m'.w, false) ∧ st = 5 ∧ e = 7))
  | 0, a, r, m, hd, hj, _, _ => by have := hj.lt; omega
  | d + 1, a, r, m, hd, hj, hc, hm => by
    have hx0 : 0 ≤ L.getD a 0 := hL _ (by rw [List.getD_eq_getElem?_getD, List.getElem?_eq_getElem hj.lt]; exact List.getElem_mem hj.lt)
    obtain ⟨j', m1, hJ, hc1, hm1, hout⟩ := join_alone (c := c) (m := m) (x := L.getD a 0) (sd := 1) (by' := i) (n := n) hr hm hc hx0
    have t1 := rd_JE 3 r m j' m1 hj.ph (by rw [hj.j]; exact hJ)
    rw [drop_cons hj.lt]
    have next : ∀ (r2 : Rd) (m2 : Mm) (b : Nat), r2.slot = i → r2.n = n → r2.l = L → r2.at' = (a : Int) → m2.c = c → m2.ok → b ≤ 5 → RdTo b (r, m) (r2.goes, m2) →
        ∃ r' m' st e, RdTo (5 * (d + 1)) (r, m) (r', m') ∧ RdL r' c m' i st e ∧ ((cfs c i 0 n m2.w (L.drop (a + 1)) = (m'.w, true) ∧ st = -1 ∧ e = 0) ∨ (cfs c i 0 n m2.w (L.drop (a + 1)) = (m'.w, false) ∧ st = 5 ∧ e = 7)) := fun r2 m2 b h1 h2 h3 h4 h5 h6 hb ht => by
      rcases RdJ.goes h1 h2 h3 h4 hj.len hj.lt with ⟨e1, e2⟩ | ⟨e1, e2⟩
      · rw [e2] at ht
        refine ⟨_, _, -1, 0, ht.mono (by omega), ⟨rfl, h1, by show (⟨r2.slot, 0, -1, false, false⟩ : Lv) = _; rw [h1], rfl, h5, h6⟩, .inl ⟨?_, rfl, rfl⟩⟩
        rw [e1, List.drop_length]
        rfl
      · obtain ⟨r', m', st, e, q1, q2, q3⟩ := rd_list hr hi0 hi1 hL d (a + 1) r2.goes m2 (by omega) e2 h5 h6
        exact ⟨r', m', st, e, (ht.trans q1).mono (by omega), q2, q3⟩
    rcases hout with ⟨hg, h1, hw⟩ | ⟨hg, hb, h3, hw⟩ | ⟨hg, hb, h2, hw⟩
    · have e1 : rdJoined r j' = Rd.goes ⟨r.ph, r.q, r.key, r.slot, r.n, r.w, r.oth, r.no, r.told, r.at', r.en, j', r.o, r.lv, r.l⟩ := by
        unfold rdJoined; rw [h1]; rfl
      rw [e1] at t1
      obtain ⟨r', m', st, e, q1, q2, q3⟩ := next ⟨r.ph, r.q, r.key, r.slot, r.n, r.w, r.oth, r.no, r.told, r.at', r.en, j', r.o, r.lv, r.l⟩ m1 3 hj.slot hj.nn hj.ll hj.at' hc1 hm1 (by omega) t1
      refine ⟨r', m', st, e, q1, q2, ?_⟩
      rw [hw] at q3
      unfold cfs
      rw [if_pos hg]
      exact q3
    · have e1 : rdJoined r j' = Rd.ends ⟨r.ph, r.q, r.key, r.slot, r.n, r.w, r.oth, r.no, r.told, r.at', r.en, j', r.o, r.lv, r.l⟩ 5 7 := by
        unfold rdJoined; rw [h3]; rfl
      rw [e1] at t1
      refine ⟨_, _, 5, 7, t1.mono (by omega), ⟨rfl, hj.slot, by show (⟨r.slot, 0, 5, false, false⟩ : Lv) = _; rw [hj.slot], rfl, hc1, hm1⟩, .inr ⟨?_, rfl, rfl⟩⟩
      unfold cfs
      rw [if_neg (by rw [hg]; decide), if_pos (by rw [show (1 : Int) - 0 = 1 from rfl]; exact hb), hw]
    · have e1 : rdJoined r j' = ⟨5, 4, r.key, r.slot, r.n, r.w, r.oth, r.no, r.told, r.at', r.en, j', ⟨r.slot, 0, r.oth, 0, false, false⟩, r.lv, r.l⟩ := by
        unfold rdJoined; rw [h2]; rfl
      rw [e1] at t1
      obtain ⟨o', m2, hO, hc2, hm2, hw2⟩ := own_alone (c := c) (m := m1) (i := i) (sd := 0) (x := L.getD a 0) hr hm1 hc1 hi0 hi1
      have t2 := rd_OE 2 ⟨5, 4, r.key, r.slot, r.n, r.w, r.oth, r.no, r.told, r.at', r.en, j', ⟨r.slot, 0, r.oth, 0, false, false⟩, r.lv, r.l⟩ m1 o' m2 rfl (by show OE 2 ⟨r.slot, 0, r.oth, 0, false, false⟩ m1 o' m2; rw [hj.slot, hj.oth]; exact hO)
      have hdn : o'.dn = true := by
        have key : ∀ (k : Nat) (o : On) (m : Mm), OE k o m o' m2 → o'.dn = true := fun k => by
          induction k with
          | zero => intro o m h; exact h.elim
          | succ k ih =>
            intro o m h
            rcases h with ⟨_, _, h⟩ | ⟨_, h⟩
            · exact h
            · exact ih _ _ h
        exact key _ _ _ hO
      have e2 : rdOwned ⟨5, 4, r.key, r.slot, r.n, r.w, r.oth, r.no, r.told, r.at', r.en, j', ⟨r.slot, 0, r.oth, 0, false, false⟩, r.lv, r.l⟩ o' = Rd.goes ⟨5, 4, r.key, r.slot, r.n, r.w, r.oth, r.no, r.told, r.at', r.en, j', o', r.lv, r.l⟩ := by
        unfold rdOwned; rw [if_pos hdn]
      rw [e2] at t2
      obtain ⟨r', m', st, e, q1, q2, q3⟩ := next ⟨5, 4, r.key, r.slot, r.n, r.w, r.oth, r.no, r.told, r.at', r.en, j', o', r.lv, r.l⟩ m2 5 hj.slot hj.nn hj.ll hj.at' hc2 hm2 (by omega) (t1.trans t2)
      refine ⟨r', m', st, e, q1, q2, ?_⟩
      have ew : m2.w = cfTwo c m.w i 0 (L.getD a 0) := by
        rw [hw2, hw]
        rfl
      rw [ew] at q3
      unfold cfs
      rw [if_neg (by rw [hg]; decide), if_neg (by rw [show (1 : Int) - 0 = 1 from rfl, hb]; decide)]
      exact q3
end Go.Proofs.YtocfhiafegkfkaaGreat.Ct
namespace Go.Proofs.YtocfhiafegkfkaaGreat.Ct
open Go Go.Proofs Go.Proofs.YtocfhiafegkfkaaGreat.Ev
open Go.RowKit

/-- What is amiss with an entering of the one state 2. -/
def fltR (s h : Int) : Int := fltI s h [2]
theorem flt_ok {s h : Int} (hf : fltR s h = 0) : nuI s 30 32 = tkG h ∧ nuI s 27 3 = 2 ∧ bitI s 26 = false := by
  unfold fltR fltI at hf
  split at hf
  · omega
  · rename_i h1
    split at hf
    · omega
    · split at hf
      · omega
      · split at hf
        · omega
        · rename_i h4
          split at hf
          · rename_i h5
            refine ⟨by simpa using h1, ?_, eq_false_of_ne_true h4⟩
            simpa [inB] using h5
          · omega
theorem flt_of {s h : Int} (h1 : nuI s 30 32 = tkG h) (h2 : nuI s 27 3 = 2) (h3 : bitI s 26 = false) : fltR s h = 0 := by
  unfold fltR fltI
  rw [h1, h2, h3, if_neg (by simp), if_neg (by decide), if_neg (by decide), if_neg (by decide), if_pos (by decide)]
theorem flt_rng (s h : Int) : fltR s h = 0 ∨ fltR s h = 2 ∨ fltR s h = 3 ∨ fltR s h = 4 := by
  unfold fltR fltI
  split
  · omega
  · split
    · omega
    · split
      · omega
      · split
        · omega
        · split <;> omega
theorem ofOk_rng {h s : Int} (ho : ofOk h s = true) : 0 ≤ tkS h ∧ tkS h < s ∧ tkS h ≤ 11 := by
  unfold ofOk at ho
  simp only [Bool.and_eq_true, decide_eq_true_eq] at ho
  obtain ⟨⟨h1, h2⟩, _⟩ := ho
  have h3 := tkOk_iff.1 h1
  unfold tkS at h2 ⊢
  rw [if_pos h1] at h2 ⊢
  omega
theorem newE_ok {c : Cfg} {h key : Int} (he : rdNewE c h key = 0) : 0 ≤ key ∧ key < c.k ∧ ofOk h c.s = true := by
  unfold rdNewE at he
  split at he
  · omega
  · split at he
    · omega
    · split at he
      · rename_i h3
        exact ⟨by omega, by omega, h3⟩
      · omega
theorem oth_mem {w k s x : Int} (h : x ∈ othL w k s) : 0 ≤ x ∧ x ≤ 11 ∧ x ≠ s ∧ hasI w k x = true := by
  unfold othL butL upK at h
  rw [List.mem_filter, List.mem_filter, List.mem_map] at h
  obtain ⟨⟨⟨y, hy, rfl⟩, h2⟩, h3⟩ := h
  rw [List.mem_range] at hy
  have h3 := of_decide_eq_true h3
  exact ⟨Int.natCast_nonneg y, by show (y : Int) ≤ 11; omega, h3, h2⟩
/-- What is told, and what is left: its words. -/
def rdEnd (c : Cfg) (w : List Int) (i key : Int) : List Int × Int :=
  ((putS c (acc c i 0 (snWd c w i) (setW w (cellIx c 8 key) (withI (kWd c w key) 0 i)) (othL (kWd c w key) 1 i)).1 i
    (mvI (wths 0 (acc c i 0 (snWd c w i) (setW w (cellIx c 8 key) (withI (kWd c w key) 0 i)) (othL (kWd c w key) 1 i)).2.1 (sWd c w i)) (if (acc c i 0 (snWd c w i) (setW w (cellIx c 8 key) (withI (kWd c w key) 0 i)) (othL (kWd c w key) 1 i)).2.2 = true then 2 else 5) false)),
    if (acc c i 0 (snWd c w i) (setW w (cellIx c 8 key) (withI (kWd c w key) 0 i)) (othL (kWd c w key) 1 i)).2.2 = true then 0 else 7)
def rdWant (c : Cfg) (w : List Int) (h key : Int) : List Int × Int :=
  if rdNewE c h key ≠ 0 then (w, rdNewE c h key)
  else if fltR (sWd c w (tkS h)) h ≠ 0 then (w, fltR (sWd c w (tkS h)) h)
  else rdEnd c w (tkS h) key
theorem en_look {h : Int} {m : Mm} (ho : ofOk h m.c.s = true) : enSt (Et.w2 ⟨tkS h, 0, h, false, false, 0, 0⟩) m = ⟨tkS h, sWd m.c m.w (tkS h), h, row2, fltR (sWd m.c m.w (tkS h)) h == 0, fltR (sWd m.c m.w (tkS h)) h != 0, fltR (sWd m.c m.w (tkS h)) h, 0⟩ ∧ enMe (Et.w2 ⟨tkS h, 0, h, false, false, 0, 0⟩) m = mLd m 4 (tkS h) := by
  unfold enSt enMe Et.w2
  simp only [ho, if_true, Bool.false_eq_true, if_false]
  exact ⟨rfl, trivial⟩
theorem en_swap {h s : Int} {m : Mm} (ho : ofOk h m.c.s = true) (hd : dnS m 4 (tkS h) s = true) : enSt (Et.w2 ⟨tkS h, s, h, true, false, 0, 0⟩) m = ⟨tkS h, s, h, row2, false, true, 0, mvI s (nuI s 27 3) true⟩ ∧ enMe (Et.w2 ⟨tkS h, s, h, true, false, 0, 0⟩) m = mSw m 4 (tkS h) s (mvI s (nuI s 27 3) true) := by
  unfold enSt enMe Et.w2
  simp only [ho, hd, if_true, Bool.false_eq_true, if_false]
  exact ⟨trivial, trivial⟩
theorem rd_alone {c : Cfg} (hr : c.Right) {m : Mm} (hc : m.c = c) (hm : m.ok) (h key : Int) :
    ∃ r' m', RdTo 70 (rdOf c h key, m) (r', m') ∧ r'.dn = true ∧ m'.c = c ∧ m'.ok ∧ r'.no = (rdWant c m.w h key).2 ∧ m'.w = (rdWant c m.w h key).1 := by
  unfold rdWant
  by_cases he : rdNewE c h key = 0
  · rw [if_neg (fun x => x he)]
    obtain ⟨k0, k1, ho⟩ := newE_ok he
    obtain ⟨i0, i1, i2⟩ := ofOk_rng ho
    have ho' : ofOk h m.c.s = true := by rw [hc]; exact ho
    have e0 : rdOf c h key = ⟨0, 1, key, tkS h, 0, 0, 0, 0, 0, 0, ⟨tkS h, 0, h, false, false, 0, 0⟩, ⟨0, 0, 0, 0, lookF, 0, 0⟩, ⟨0, 0, 0, 0, false, false⟩, ⟨0, 0, 0, false, false⟩, []⟩ := by
      unfold rdOf rdNew
      rw [he, ho]
      rfl
    rw [e0]
    generalize hi : tkS h = i at *
    generalize hs : sWd c m.w i = s at *
    have hl4 := ix_i hr i0 i1 (w := m.w) (by rw [hm.2, hc])
    have hl8 := ix_key_rng hr k0 k1
    have hlen : (m.w.length : Int) = c.len := by rw [hm.2, hc]
    -- the first step: it looks
    obtain ⟨q1, q2⟩ := en_look (h := h) (m := m) ho'
    rw [hi, show sWd m.c m.w i = s by rw [hc]; exact hs] at q1
    rw [hi] at q2
    have t1 : RdTo 1 (⟨0, 1, key, i, 0, 0, 0, 0, 0, 0, ⟨i, 0, h, false, false, 0, 0⟩, ⟨0, 0, 0, 0, lookF, 0, 0⟩, ⟨0, 0, 0, 0, false, false⟩, ⟨0, 0, 0, false, false⟩, []⟩, m)
        (rdEnter ⟨0, 1, key, i, 0, 0, 0, 0, 0, 0, ⟨i, 0, h, false, false, 0, 0⟩, ⟨0, 0, 0, 0, lookF, 0, 0⟩, ⟨0, 0, 0, 0, false, false⟩, ⟨0, 0, 0, false, false⟩, []⟩ ⟨i, s, h, row2, fltR s h == 0, fltR s h != 0, fltR s h, 0⟩ (mLd m 4 i), mLd m 4 i) := by
      refine ⟨1, Nat.le_refl _, ?_⟩
      rw [← q1, ← q2]
      rfl
    have hok1 : (mLd m 4 i).ok := acc_ok hm rfl
    have ho1 : ofOk h (mLd m 4 i).c.s = true := ho'
    by_cases hf : fltR s h = 0
    · rw [if_neg (fun x => x hf)]
      obtain ⟨f1, f2, f3⟩ := flt_ok hf
      rw [hf] at t1
      have e1 : rdEnter ⟨0, 1, key, i, 0, 0, 0, 0, 0, 0, ⟨i, 0, h, false, false, 0, 0⟩, ⟨0, 0, 0, 0, lookF, 0, 0⟩, ⟨0, 0, 0, 0, false, false⟩, ⟨0, 0, 0, false, false⟩, []⟩ ⟨i, s, h, row2, (0 : Int) == 0, (0 : Int) != 0, 0, 0⟩ (mLd m 4 i) = ⟨0, 1, key, i, 0, 0, 0, 0, 0, 0, ⟨i, s, h, true, false, 0, 0⟩, ⟨0, 0, 0, 0, lookF, 0, 0⟩, ⟨0, 0, 0, 0, false, false⟩, ⟨0, 0, 0, false, false⟩, []⟩ := by
        unfold rdEnter
        simp only [ho1]
        rfl
      rw [e1] at t1
      -- the second: it takes
      have hd : dnS (mLd m 4 i) 4 i s = true := dnS_hit (by show 0 ≤ cellIx m.c 4 i; rw [hc]; exact hl4.1) (by show getW m.w (cellIx m.c 4 i) = s; rw [hc]; exact hs)
      obtain ⟨q3, q4⟩ := en_swap (h := h) (s := s) (m := mLd m 4 i) ho1 (by rw [hi]; exact hd)
      rw [hi, f2] at q3 q4
      have hok2 : (mSw (mLd m 4 i) 4 i s (mvI s 2 true)).ok := acc_ok hok1 (swpW_len _ _ _ _)
      have ho2 : ofOk h (mSw (mLd m 4 i) 4 i s (mvI s 2 true)).c.s = true := ho'
      have t2 : RdTo 1 (⟨0, 1, key, i, 0, 0, 0, 0, 0, 0, ⟨i, s, h, true, false, 0, 0⟩, ⟨0, 0, 0, 0, lookF, 0, 0⟩, ⟨0, 0, 0, 0, false, false⟩, ⟨0, 0, 0, false, false⟩, []⟩, mLd m 4 i)
          (⟨1, 1, key, i, 0, 0, 0, 0, 0, 0, ⟨i, s, h, false, true, 0, mvI s 2 true⟩, ⟨0, 0, 0, 0, lookF, 0, 0⟩, ⟨0, 0, 0, 0, false, false⟩, ⟨0, 0, 0, false, false⟩, []⟩, mSw (mLd m 4 i) 4 i s (mvI s 2 true)) := by
        refine ⟨1, Nat.le_refl _, ?_⟩
        show (rdEnter _ (enSt (Et.w2 ⟨i, s, h, true, false, 0, 0⟩) (mLd m 4 i)) (enMe (Et.w2 ⟨i, s, h, true, false, 0, 0⟩) (mLd m 4 i)), enMe (Et.w2 ⟨i, s, h, true, false, 0, 0⟩) (mLd m 4 i)) = _
        rw [q3, q4]
        unfold rdEnter errI
        simp only [ho2]
        rfl
      obtain ⟨m2, hm2⟩ : ∃ m2, mSw (mLd m 4 i) 4 i s (mvI s 2 true) = m2 := ⟨_, rfl⟩
      have hc2 : m2.c = c := by rw [← hm2]; exact hc
      have hw2 : m2.w = putS c m.w i (mvI s 2 true) := by
        rw [← hm2]
        show swpW m.w (cellIx m.c 4 i) s _ = _
        rw [hc]
        exact swpW_hit hs
      rw [hm2] at t2 hok2
      -- the third: its snapshot
      have hsn : getW m2.w (cellIx m2.c 5 i) = snWd c m.w i := by
        rw [hc2, hw2]
        exact getW_set_ne (ix_ne hr (.inl rfl) (.inr (.inl rfl)) i0 i1 i0 i1 (.inl (by decide)))
      have hky : getW m2.w (cellIx m2.c 8 key) = kWd c m.w key := by
        rw [hc2, hw2]
        exact getW_set_ne (ix_nek hr (.inl rfl) i0 i1 k0 k1)
      generalize hn : snWd c m.w i = n at *
      generalize hk : kWd c m.w key = kw at *
      have t3 : RdTo 2 (⟨1, 1, key, i, 0, 0, 0, 0, 0, 0, ⟨i, s, h, false, true, 0, mvI s 2 true⟩, ⟨0, 0, 0, 0, lookF, 0, 0⟩, ⟨0, 0, 0, 0, false, false⟩, ⟨0, 0, 0, false, false⟩, []⟩, m2)
          (if hasI kw 0 i = true then Rd.found ⟨2, 1, key, i, n, kw, 0, 0, 0, 0, ⟨i, s, h, false, true, 0, mvI s 2 true⟩, ⟨0, 0, 0, 0, lookF, 0, 0⟩, ⟨0, 0, 0, 0, false, false⟩, ⟨0, 0, 0, false, false⟩, []⟩ else ⟨3, 1, key, i, n, kw, 0, 0, 0, 0, ⟨i, s, h, false, true, 0, mvI s 2 true⟩, ⟨0, 0, 0, 0, lookF, 0, 0⟩, ⟨0, 0, 0, 0, false, false⟩, ⟨0, 0, 0, false, false⟩, []⟩, mLd (mLd m2 5 i) 8 key) := by
        refine ⟨2, Nat.le_refl _, ?_⟩
        show (if hasI (getW m2.w (cellIx m2.c 8 key)) 0 i = true then Rd.found ⟨2, 1, key, i, getW m2.w (cellIx m2.c 5 i), getW m2.w (cellIx m2.c 8 key), 0, 0, 0, 0, ⟨i, s, h, false, true, 0, mvI s 2 true⟩, ⟨0, 0, 0, 0, lookF, 0, 0⟩, ⟨0, 0, 0, 0, false, false⟩, ⟨0, 0, 0, false, false⟩, []⟩ else ⟨3, 1, key, i, getW m2.w (cellIx m2.c 5 i), getW m2.w (cellIx m2.c 8 key), 0, 0, 0, 0, ⟨i, s, h, false, true, 0, mvI s 2 true⟩, ⟨0, 0, 0, 0, lookF, 0, 0⟩, ⟨0, 0, 0, 0, false, false⟩, ⟨0, 0, 0, false, false⟩, []⟩, mLd (mLd m2 5 i) 8 key) = _
        rw [hsn, hky]
      obtain ⟨m3, hm3⟩ : ∃ m3, mLd (mLd m2 5 i) 8 key = m3 := ⟨_, rfl⟩
      have hc3 : m3.c = c := by rw [← hm3]; exact hc2
      have hok3 : m3.ok := by rw [← hm3]; exact acc_ok (acc_ok hok2 rfl) rfl
      have hw3 : m3.w = putS c m.w i (mvI s 2 true) := by rw [← hm3]; exact hw2
      rw [hm3] at t3
      -- behind the mark
      have t4 : ∃ ph m4, ph ≤ 3 ∧ RdTo 3 (⟨1, 1, key, i, 0, 0, 0, 0, 0, 0, ⟨i, s, h, false, true, 0, mvI s 2 true⟩, ⟨0, 0, 0, 0, lookF, 0, 0⟩, ⟨0, 0, 0, 0, false, false⟩, ⟨0, 0, 0, false, false⟩, []⟩, m2) (Rd.found ⟨ph, 1, key, i, n, kw, 0, 0, 0, 0, ⟨i, s, h, false, true, 0, mvI s 2 true⟩, ⟨0, 0, 0, 0, lookF, 0, 0⟩, ⟨0, 0, 0, 0, false, false⟩, ⟨0, 0, 0, false, false⟩, []⟩, m4) ∧ m4.c = c ∧ m4.ok ∧ m4.w = putS c (setW m.w (cellIx c 8 key) (withI kw 0 i)) i (mvI s 2 true) := by
        have hne : cellIx c 4 i ≠ cellIx c 8 key := ix_nek hr (.inl rfl) i0 i1 k0 k1
        have hw : setW (putS c m.w i (mvI s 2 true)) (cellIx c 8 key) (withI kw 0 i) = putS c (setW m.w (cellIx c 8 key) (withI kw 0 i)) i (mvI s 2 true) := setW_comm _ hne _ _
        cases hh : hasI kw 0 i with
        | true =>
          rw [hh, if_pos rfl] at t3
          refine ⟨2, m3, by omega, t3.mono (by omega), hc3, hok3, ?_⟩
          rw [hw3, withI_has hh, setW_eq (show getW m.w (cellIx c 8 key) = kw from hk)]
        | false =>
          rw [hh, if_neg (by decide)] at t3
          have hd3 : dnS m3 8 key kw = true := dnS_hit (by rw [hc3]; exact hl8.1) (by
            rw [hc3, hw3]
            show getW (setW _ _ _) _ = _
            rw [getW_set_ne hne]
            exact hk)
          refine ⟨3, mSw m3 8 key kw (withI kw 0 i), by omega, t3.trans ⟨1, Nat.le_refl _, ?_⟩, hc3, acc_ok hok3 (swpW_len _ _ _ _), ?_⟩
          · show (if dnS m3 8 key kw = true then _ else _, mSw m3 8 key kw (withI kw 0 i)) = _
            rw [hd3, if_pos rfl]
          · show swpW m3.w (cellIx m3.c 8 key) kw _ = _
            rw [hc3, hw3, swpW_hit (by
              show getW (setW _ _ _) _ = _
              rw [getW_set_ne hne]
              exact hk), hw]
      obtain ⟨ph, m4, _, t4, hc4, hok4, hw4⟩ := t4
      -- the others
      have hL : ∀ x ∈ othL kw 1 i, 0 ≤ x ∧ x ≠ i := fun x hx => ⟨(oth_mem hx).1, (oth_mem hx).2.2.1⟩
      generalize hw0 : setW m.w (cellIx c 8 key) (withI kw 0 i) = w0 at *
      have hl0 : (w0.length : Int) = c.len := by rw [← hw0, setW_len]; exact hlen
      have hcf := cfs_acc hr (i := i) (sd := 0) (n := n) i0 i1 (othL kw 1 i) w0 (mvI s 2 true) hL hl0
      have t5 : ∃ r5 m5 st e, RdTo 60 (Rd.found ⟨ph, 1, key, i, n, kw, 0, 0, 0, 0, ⟨i, s, h, false, true, 0, mvI s 2 true⟩, ⟨0, 0, 0, 0, lookF, 0, 0⟩, ⟨0, 0, 0, 0, false, false⟩, ⟨0, 0, 0, false, false⟩, []⟩, m4) (r5, m5) ∧ RdL r5 c m5 i st e ∧ ((cfs c i 0 n m4.w (othL kw 1 i) = (m5.w, true) ∧ st = -1 ∧ e = 0) ∨ (cfs c i 0 n m4.w (othL kw 1 i) = (m5.w, false) ∧ st = 5 ∧ e = 7)) := by
        unfold Rd.found
        by_cases hnil : othL kw 1 i = []
        · rw [if_pos hnil]
          exact ⟨_, m4, -1, 0, ⟨0, by omega, rfl⟩, ⟨rfl, rfl, rfl, rfl, hc4, hok4⟩, .inl ⟨by rw [hnil]; rfl, rfl, rfl⟩⟩
        · rw [if_neg hnil]
          have hp := getD_nil hnil
          obtain ⟨r5, m5, st, e, a1, a2, a3⟩ := rd_list hr (i := i) (n := n) (L := othL kw 1 i) i0 i1 (fun x hx => (hL x hx).1) (othL kw 1 i).length 0 ⟨4, 3, key, i, n, kw, (othL kw 1 i).getD 0 0, 0, 0, 0, ⟨i, s, h, false, true, 0, mvI s 2 true⟩, rdJoin ((othL kw 1 i).getD 0 0) 1 i n, ⟨0, 0, 0, 0, false, false⟩, ⟨0, 0, 0, false, false⟩, othL kw 1 i⟩ m4 rfl
            ⟨rfl, rfl, rfl, rfl, rfl, hp, oth_len _ _ _, rfl, rfl⟩ hc4 hok4
          exact ⟨r5, m5, st, e, a1.mono (by have := oth_len kw 1 i; omega), a2, a3⟩
      obtain ⟨r5, m5, st, e, t5, hL5, h5⟩ := t5
      rw [hw4, hcf] at h5
      -- it leaves
      obtain ⟨v', m6, hLE, hc6, hok6, hw6⟩ := leave_alone (c := c) (m := m5) (i := i) (st := st) hr hL5.ok hL5.c i0 i1
      have t6 := rd_LE 2 r5 m5 v' m6 hL5.ph (by rw [hL5.lv]; exact hLE)
      have hdn : v'.dn = true := by
        have key : ∀ (k : Nat) (o : Lv) (m : Mm), LE k o m v' m6 → v'.dn = true := fun k => by
          induction k with
          | zero => intro o m h; exact h.elim
          | succ k ih =>
            intro o m h
            rcases h with ⟨_, _, h⟩ | ⟨_, h⟩
            · exact h
            · exact ih _ _ h
        exact key _ _ _ hLE
      have e6 : rdLeft r5 v' = ⟨7, r5.q, r5.key, r5.slot, r5.n, r5.w, r5.oth, r5.told, r5.told, r5.at', r5.en, r5.j, r5.o, v', r5.l⟩ := by
        unfold rdLeft; rw [if_pos hdn]
      rw [e6] at t6
      refine ⟨_, m6, ((((t1.trans t2).trans t4).trans t5).trans t6).mono (by omega), rfl, hc6, hok6, ?_, ?_⟩
      · show r5.told = _
        rw [hL5.told]
        unfold rdEnd
        rw [hn, hk, hw0]
        rcases h5 with ⟨h5, _, rfl⟩ | ⟨h5, _, rfl⟩
        · rw [Prod.mk.injEq] at h5
          simp only [h5.2, if_true]
        · rw [Prod.mk.injEq] at h5
          simp only [h5.2, Bool.false_eq_true, if_false]
      · rw [hw6]
        unfold rdEnd
        rw [hn, hk, hw0, hs]
        have hla : ((acc c i 0 n w0 (othL kw 1 i)).1.length : Int) = c.len := by rw [acc_len]; exact hl0
        have fin : ∀ b : Bool, (putS c (acc c i 0 n w0 (othL kw 1 i)).1 i (wths 0 (acc c i 0 n w0 (othL kw 1 i)).2.1 (mvI s 2 true)), (acc c i 0 n w0 (othL kw 1 i)).2.2) = (m5.w, b) → st = (if b = true then -1 else 5) → setW m5.w (cellIx c 4 i) (mvI (sWd c m5.w i) (lvS (sWd c m5.w i) st) false) = putS c (acc c i 0 n w0 (othL kw 1 i)).1 i (mvI (wths 0 (acc c i 0 n w0 (othL kw 1 i)).2.1 s) (if (acc c i 0 n w0 (othL kw 1 i)).2.2 = true then 2 else 5) false) := fun b hb hst => by
          rw [Prod.mk.injEq] at hb
          obtain ⟨b1, b2⟩ := hb
          rw [← b1, sWd_put_same hr i0 i1 hla, wths_mv]
          show putS c (putS c _ i _) i _ = _
          rw [putS_put, mv_mv, b2]
          have hnu : nuI (mvI (wths 0 (acc c i 0 n w0 (othL kw 1 i)).2.1 s) 2 true) 27 3 = 2 := mv_nu _ _ _
          congr 2
          unfold lvS
          rw [hnu, hst]
          cases b <;> rfl
        rcases h5 with ⟨h5, h6, _⟩ | ⟨h5, h6, _⟩
        · exact fin true h5 h6
        · exact fin false h5 h6
    · rw [if_pos hf]
      refine ⟨_, _, t1.mono (by omega), ?_, hc, hok1, ?_, rfl⟩
      · unfold rdEnter errI
        have : (fltR s h != 0) = true := bne_iff_ne.2 hf
        simp only [ho1, this, if_true, Bool.true_or]
        rfl
      · unfold rdEnter errI
        have : (fltR s h != 0) = true := bne_iff_ne.2 hf
        simp only [ho1, this, if_true, Bool.true_or]
  · rw [if_pos he]
    have e0 : rdOf c h key = ⟨7, 0, key, if ofOk h c.s = true then tkS h else 0, 0, 0, 0, rdNewE c h key, 0, 0, ⟨tkS h, 0, h, false, false, 0, 0⟩, ⟨0, 0, 0, 0, lookF, 0, 0⟩, ⟨0, 0, 0, 0, false, false⟩, ⟨0, 0, 0, false, false⟩, []⟩ := by
      unfold rdOf rdNew
      rw [if_neg he, if_neg he]
    rw [e0]
    exact ⟨_, m, ⟨0, by omega, rfl⟩, rfl, hc, hm, rfl, rfl⟩
theorem rd_run {c : Cfg} (hr : c.Right) {m : Mm} (hc : m.c = c) (hm : m.ok) (h key : Int) {N : Nat} (hN : 70 ≤ N) (k : Nat) :
    (rdRun N k (rdOf c h key) m).2.1.dn = true ∧ (rdRun N k (rdOf c h key) m).2.2.c = c ∧ (rdRun N k (rdOf c h key) m).2.2.ok ∧ (rdRun N k (rdOf c h key) m).2.1.no = (rdWant c m.w h key).2 ∧ (rdRun N k (rdOf c h key) m).2.2.w = (rdWant c m.w h key).1 := by
  obtain ⟨r', m', h1, h2, h3, h4, h5, h6⟩ := rd_alone hr hc hm h key
  have := h1.run hN h2 k
  rw [this]
  exact ⟨h2, h3, h4, h5, h6⟩
end Go.Proofs.YtocfhiafegkfkaaGreat.Ct
namespace Go.Proofs.YtocfhiafegkfkaaGreat.Ct
open Go Go.Proofs Go.Proofs.YtocfhiafegkfkaaGreat.Ev
open Go.RowKit

theorem atI_ne {k k' x i : Int} (hx0 : 0 ≤ x) (hx1 : x ≤ 11) (hi0 : 0 ≤ i) (hi1 : i ≤ 11) (hne : k ≠ k') (h : 0 ≤ atI k x) : atI k' i ≠ atI k x := by
  unfold atI at h ⊢
  split at h
  · omega
  · rename_i h1
    rw [if_neg h1]
    split <;> omega
/-- The marks of the other kind are not told by one that is laid. -/
theorem oth_with {w k k' i s : Int} (hi0 : 0 ≤ i) (hi1 : i ≤ 11) (hne : k ≠ k') : othL (withI w k' i) k s = othL w k s := by
  unfold othL upK
  congr 1
  refine List.filter_congr fun x hx => ?_
  rw [List.mem_map] at hx
  obtain ⟨y, hy, rfl⟩ := hx
  rw [List.mem_range] at hy
  have hy0 : (0 : Int) ≤ Int.ofNat y := Int.natCast_nonneg y
  have hy1 : Int.ofNat y ≤ 11 := by show (y : Int) ≤ 11; omega
  unfold hasI
  by_cases ha : 0 ≤ atI k (Int.ofNat y)
  · rw [with_bit ha (atI_ne hy0 hy1 hi0 hi1 hne ha)]
  · rw [decide_eq_false ha, Bool.false_and, Bool.false_and]
theorem kWd_put {c : Cfg} (hr : c.Right) {i key : Int} (h0 : 0 ≤ i) (h1 : i < c.s) (k0 : 0 ≤ key) (k1 : key < c.k) (w : List Int) (v : Int) : kWd c (putS c w i v) key = kWd c w key := getW_set_ne (ix_nek hr (.inl rfl) h0 h1 k0 k1)
theorem snWd_put {c : Cfg} (hr : c.Right) {i : Int} (h0 : 0 ≤ i) (h1 : i < c.s) (w : List Int) (v : Int) : snWd c (putS c w i v) i = snWd c w i := getW_set_ne (ix_ne hr (.inl rfl) (.inr (.inl rfl)) h0 h1 h0 h1 (.inl (by decide)))
theorem ix48_ne {c : Cfg} (hr : c.Right) {x key : Int} (hx : 0 ≤ x) (k0 : 0 ≤ key) (k1 : key < c.k) : cellIx c 4 x ≠ cellIx c 8 key := by
  by_cases h : x < c.s
  · exact ix_nek hr (.inl rfl) hx h k0 k1
  · rw [ix_over (k := 4) (n := x) (.inl rfl) (by omega)]
    have := (ix_key_rng hr k0 k1).1
    omega
theorem ix45_ne {c : Cfg} (hr : c.Right) {i x : Int} (h0 : 0 ≤ i) (h1 : i < c.s) (hx : 0 ≤ x) : cellIx c 4 x ≠ cellIx c 5 i := by
  by_cases h : x < c.s
  · exact ix_ne hr (.inl rfl) (.inr (.inl rfl)) hx h h0 h1 (.inl (by decide))
  · rw [ix_over (k := 4) (n := x) (.inl rfl) (by omega)]
    have := (ix_slot_rng hr (k := 5) (.inr (.inl rfl)) h0 h1).1
    omega
theorem end_twice {c : Cfg} (hr : c.Right) {w : List Int} (hl : (w.length : Int) = c.len) (hw : WfW w) {h i key : Int} (i0 : 0 ≤ i) (i1 : i < c.s) (i2 : i ≤ 11) (k0 : 0 ≤ key) (k1 : key < c.k) (hf : fltR (sWd c w i) h = 0) :
    ((rdEnd c w i key).2 = 0 → fltR (sWd c (rdEnd c w i key).1 i) h = 0 ∧ rdEnd c (rdEnd c w i key).1 i key = rdEnd c w i key) ∧ ((rdEnd c w i key).2 ≠ 0 → fltR (sWd c (rdEnd c w i key).1 i) h ≠ 0) := by
  generalize hs : sWd c w i = s at *
  generalize hn : snWd c w i = n at *
  generalize hk : kWd c w key = kw at *
  have hsw : Wd s := by rw [← hs]; exact hw.sWd i
  have hkw : Wd kw := by rw [← hk]; exact hw.getW _
  have hL : ∀ x ∈ othL kw 1 i, 0 ≤ x ∧ x ≠ i := fun x hx => ⟨(oth_mem hx).1, (oth_mem hx).2.2.1⟩
  have hL11 : ∀ x ∈ othL kw 1 i, 0 ≤ x ∧ x ≤ 11 := fun x hx => ⟨(oth_mem hx).1, (oth_mem hx).2.1⟩
  generalize hw0 : setW w (cellIx c 8 key) (withI kw 0 i) = w0
  have hl0 : (w0.length : Int) = c.len := by rw [← hw0, setW_len]; exact hl
  have hww0 : WfW w0 := by rw [← hw0]; exact hw.setW _ (withI_rng hkw 0 i).1 (withI_rng hkw 0 i).2
  have ea : rdEnd c w i key = (putS c (acc c i 0 n w0 (othL kw 1 i)).1 i (mvI (wths 0 (acc c i 0 n w0 (othL kw 1 i)).2.1 s) (if (acc c i 0 n w0 (othL kw 1 i)).2.2 = true then 2 else 5) false), if (acc c i 0 n w0 (othL kw 1 i)).2.2 = true then 0 else 7) := by
    unfold rdEnd
    rw [hn, hk, hs, hw0]
  have hla : ((acc c i 0 n w0 (othL kw 1 i)).1.length : Int) = c.len := by rw [acc_len]; exact hl0
  cases hb : (acc c i 0 n w0 (othL kw 1 i)).2.2 with
  | false =>
    rw [hb, if_neg (by decide), if_neg (by decide)] at ea
    rw [ea]
    refine ⟨fun x => absurd (show (7 : Int) = 0 from x) (by decide), fun _ hx => ?_⟩
    have h2 := (flt_ok hx).2.1
    simp only [sWd_put_same hr i0 i1 hla] at h2
    have : nuI (mvI (wths 0 (acc c i 0 n w0 (othL kw 1 i)).2.1 s) 5 false) 27 3 = 5 := mv_nu _ _ _
    omega
  | true =>
    rw [hb, if_pos rfl, if_pos rfl] at ea
    rw [ea]
    refine ⟨fun _ => ?_, fun x => absurd rfl x⟩
    obtain ⟨a1, a2, a3, a4⟩ := acc_all hr i0 i2 (sd := 0) (by omega) (othL kw 1 i) w0 (fun x hx => (hL x hx).1) hl0 hww0 hb
    generalize hA : (acc c i 0 n w0 (othL kw 1 i)).2.1 = A at *
    obtain ⟨f1, f2, f3⟩ := flt_ok hf
    have hAs : ∀ x ∈ A, x ∈ othL kw 1 i := fun x hx => acc_sub _ _ x (by rw [hA]; exact hx)
    have es : mvI (wths 0 A s) 2 false = wths 0 A s := mv_self (by rw [wths_nu A hsw.1]; exact f2) (by rw [wths_busy]; exact f3)
    rw [es]
    have hss : sWd c (putS c (acc c i 0 n w0 (othL kw 1 i)).1 i (wths 0 A s)) i = wths 0 A s := sWd_put_same hr i0 i1 hla _
    have hkk : kWd c (putS c (acc c i 0 n w0 (othL kw 1 i)).1 i (wths 0 A s)) key = withI kw 0 i := by
      rw [kWd_put hr i0 i1 k0 k1]
      show getW (acc c i 0 n w0 (othL kw 1 i)).1 _ = _
      rw [acc_ne _ _ fun x hx => ix48_ne hr (hL x hx).1 k0 k1, ← hw0]
      have := ix_key_rng hr k0 k1
      exact getW_set_same this.1 (by rw [hl]; exact this.2)
    have hnn : snWd c (putS c (acc c i 0 n w0 (othL kw 1 i)).1 i (wths 0 A s)) i = n := by
      rw [snWd_put hr i0 i1]
      show getW (acc c i 0 n w0 (othL kw 1 i)).1 _ = _
      rw [acc_ne _ _ fun x hx => ix45_ne hr i0 i1 (hL x hx).1, ← hw0, ← hn]
      exact getW_set_ne (ix_nek hr (.inr (.inl rfl)) i0 i1 k0 k1).symm
    have hwk : setW (putS c (acc c i 0 n w0 (othL kw 1 i)).1 i (wths 0 A s)) (cellIx c 8 key) (withI (withI kw 0 i) 0 i) = putS c (acc c i 0 n w0 (othL kw 1 i)).1 i (wths 0 A s) := by
      rw [withI_has (hasI_with (by decide) (by decide) i0 i2)]
      exact setW_eq hkk
    have hoth : othL (withI kw 0 i) 1 i = othL kw 1 i := oth_with i0 i2 (by decide)
    have hst := acc_stays (c := c) (i := i) (sd := 0) (n := n) (othL kw 1 i) (acc c i 0 n w0 (othL kw 1 i)).1 fun x hx hg => a4 x hx ((a2 x (hL x hx).1).symm.trans hg)
    have hfl : (othL kw 1 i).filter (fun x => !gnW c n (acc c i 0 n w0 (othL kw 1 i)).1 x) = A := by
      rw [a1]
      exact List.filter_congr fun x hx => by rw [a2 x (hL x hx).1]
    rw [hfl] at hst
    have hac : acc c i 0 n (putS c (acc c i 0 n w0 (othL kw 1 i)).1 i (wths 0 A s)) (othL kw 1 i) = (putS c (acc c i 0 n w0 (othL kw 1 i)).1 i (wths 0 A s), A, true) := by
      rw [acc_put hr i0 i1 _ _ _ hL, hst]
    have hw2 : wths 0 A (wths 0 A s) = wths 0 A s := wths_of_has A _ (wths_has (by omega) A s fun x hx => hL11 x (hAs x hx))
    refine ⟨?_, ?_⟩
    · show fltR (sWd c (putS c _ i _) i) h = 0
      rw [hss]
      exact flt_of (by rw [wths_gen A hsw.1]; exact f1) (by rw [wths_nu A hsw.1]; exact f2) (by rw [wths_busy]; exact f3)
    · show rdEnd c (putS c _ i _) i key = _
      unfold rdEnd
      rw [hss, hkk, hnn, hwk, hoth, hac]
      simp only [if_true, hw2, es, putS_put]
theorem want_twice {c : Cfg} (hr : c.Right) {w : List Int} (hl : (w.length : Int) = c.len) (hw : WfW w) (h key : Int) :
    (rdWant c (rdWant c w h key).1 h key).1 = (rdWant c w h key).1 ∧ ((rdWant c w h key).2 = 0 ↔ (rdWant c (rdWant c w h key).1 h key).2 = 0) := by
  have same : (rdWant c w h key).1 = w → (rdWant c (rdWant c w h key).1 h key).1 = (rdWant c w h key).1 ∧ ((rdWant c w h key).2 = 0 ↔ (rdWant c (rdWant c w h key).1 h key).2 = 0) := fun e => by
    rw [e]
    exact ⟨e, Iff.rfl⟩
  by_cases he : rdNewE c h key = 0
  · by_cases hf : fltR (sWd c w (tkS h)) h = 0
    · obtain ⟨k0, k1, ho⟩ := newE_ok he
      obtain ⟨i0, i1, i2⟩ := ofOk_rng ho
      have e1 : rdWant c w h key = rdEnd c w (tkS h) key := by unfold rdWant; rw [if_neg (fun x => x he), if_neg (fun x => x hf)]
      obtain ⟨t1, t2⟩ := end_twice hr hl hw i0 i1 i2 k0 k1 hf
      rw [e1]
      by_cases hz : (rdEnd c w (tkS h) key).2 = 0
      · obtain ⟨t3, t4⟩ := t1 hz
        have e2 : rdWant c (rdEnd c w (tkS h) key).1 h key = rdEnd c w (tkS h) key := by
          unfold rdWant; rw [if_neg (fun x => x he), if_neg (fun x => x t3), t4]
        rw [e2]
        exact ⟨rfl, Iff.rfl⟩
      · have t3 := t2 hz
        have e2 : rdWant c (rdEnd c w (tkS h) key).1 h key = ((rdEnd c w (tkS h) key).1, fltR (sWd c (rdEnd c w (tkS h) key).1 (tkS h)) h) := by
          unfold rdWant; rw [if_neg (fun x => x he), if_pos t3]
        rw [e2]
        exact ⟨rfl, ⟨fun x => absurd x hz, fun x => absurd x t3⟩⟩
    · exact same (by unfold rdWant; rw [if_neg (fun x => x he), if_pos hf])
  · exact same (by unfold rdWant; rw [if_pos he])
end Go.Proofs.YtocfhiafegkfkaaGreat.Ct
