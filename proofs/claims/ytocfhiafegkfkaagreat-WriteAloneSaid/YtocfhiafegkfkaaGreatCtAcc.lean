/- The laying of conflicts, place by place; no program in sight. -/
import Derived.Test.YtocfhiafegkfkaaGreatCtBitsW
import Derived.Test.YtocfhiafegkfkaaGreatCtRdM
namespace Go.Proofs.YtocfhiafegkfkaaGreat.Ct
open Go Go.Proofs Go.Proofs.YtocfhiafegkfkaaGreat.Ev
open Go.RowKit

/-- A status's word laid. -/
def putS (c : Cfg) (w : List Int) (j v : Int) : List Int := setW w (cellIx c 4 j) v
/-- Both ends of a conflict of a side. -/
def cfTwo (c : Cfg) (w : List Int) (i sd x : Int) : List Int := putS c (putS c w x (withI (sWd c w x) (1 - sd) i)) i (withI (sWd c (putS c w x (withI (sWd c w x) (1 - sd) i)) i) sd x)
def cfs (c : Cfg) (i sd n : Int) : List Int → List Int → List Int × Bool
  | w, [] => (w, true)
  | w, x :: xs => if goneI (sWd c w x) (nWd c w x) n = true then cfs c i sd n w xs
    else if barI (sWd c w x) (1 - sd) i = true then (w, false) else cfs c i sd n (cfTwo c w i sd x) xs
/-- The others' ends alone; whose; and whether all may have it. -/
def acc (c : Cfg) (i sd n : Int) : List Int → List Int → List Int × List Int × Bool
  | w, [] => (w, [], true)
  | w, x :: xs => if goneI (sWd c w x) (nWd c w x) n = true then acc c i sd n w xs
    else if barI (sWd c w x) (1 - sd) i = true then (w, [], false)
    else ((acc c i sd n (putS c w x (withI (sWd c w x) (1 - sd) i)) xs).1, x :: (acc c i sd n (putS c w x (withI (sWd c w x) (1 - sd) i)) xs).2.1, (acc c i sd n (putS c w x (withI (sWd c w x) (1 - sd) i)) xs).2.2)
/-- The own ends. -/
def wths (sd : Int) : List Int → Int → Int
  | [], v => v
  | x :: xs, v => wths sd xs (withI v sd x)
theorem putS_len (c : Cfg) (w : List Int) (j v : Int) : (putS c w j v).length = w.length := setW_len _ _ _
theorem ix_i {c : Cfg} (hr : c.Right) {i : Int} (h0 : 0 ≤ i) (h1 : i < c.s) {w : List Int} (hl : (w.length : Int) = c.len) : 0 ≤ cellIx c 4 i ∧ cellIx c 4 i < (w.length : Int) := by
  rw [hl]
  exact ix_slot_rng hr (.inl rfl) h0 h1
theorem ix4_ne {c : Cfg} (hr : c.Right) {i x : Int} (h0 : 0 ≤ i) (h1 : i < c.s) (hx : 0 ≤ x) (hne : x ≠ i) : cellIx c 4 i ≠ cellIx c 4 x := by
  by_cases h : x < c.s
  · exact ix_ne hr (.inl rfl) (.inl rfl) h0 h1 hx h (.inr (Ne.symm hne))
  · rw [ix_over (k := 4) (n := x) (.inl rfl) (by omega)]
    have := (ix_slot_rng hr (k := 4) (.inl rfl) h0 h1).1
    omega
theorem ix46_ne {c : Cfg} (hr : c.Right) {i x : Int} (h0 : 0 ≤ i) (h1 : i < c.s) (hx : 0 ≤ x) : cellIx c 4 i ≠ cellIx c 6 x := by
  by_cases h : x < c.s
  · exact ix_ne hr (.inl rfl) (.inr (.inr (.inl rfl))) h0 h1 hx h (.inl (by decide))
  · rw [ix_over (k := 6) (n := x) (.inr (.inr (.inl rfl))) (by omega)]
    have := (ix_slot_rng hr (k := 4) (.inl rfl) h0 h1).1
    omega
theorem sWd_put_ne {c : Cfg} (hr : c.Right) {i x : Int} (h0 : 0 ≤ i) (h1 : i < c.s) (hx : 0 ≤ x) (hne : x ≠ i) (w : List Int) (v : Int) : sWd c (putS c w i v) x = sWd c w x := getW_set_ne (ix4_ne hr h0 h1 hx hne)
theorem nWd_put {c : Cfg} (hr : c.Right) {i x : Int} (h0 : 0 ≤ i) (h1 : i < c.s) (hx : 0 ≤ x) (w : List Int) (v : Int) : nWd c (putS c w i v) x = nWd c w x := getW_set_ne (ix46_ne hr h0 h1 hx)
theorem sWd_put_same {c : Cfg} (hr : c.Right) {i : Int} (h0 : 0 ≤ i) (h1 : i < c.s) {w : List Int} (hl : (w.length : Int) = c.len) (v : Int) : sWd c (putS c w i v) i = v := getW_set_same (ix_i hr h0 h1 hl).1 (ix_i hr h0 h1 hl).2
theorem putS_self (c : Cfg) (w : List Int) (i : Int) : putS c w i (sWd c w i) = w := setW_same _ _
theorem putS_put (c : Cfg) (w : List Int) (i u v : Int) : putS c (putS c w i u) i v = putS c w i v := setW_set _ _ _ _
theorem putS_comm {c : Cfg} (w : List Int) {i j : Int} (h : cellIx c 4 i ≠ cellIx c 4 j) (u v : Int) : putS c (putS c w i u) j v = putS c (putS c w j v) i u := setW_comm _ h _ _
theorem cfTwo_put {c : Cfg} (hr : c.Right) {i sd x : Int} (h0 : 0 ≤ i) (h1 : i < c.s) (hx : 0 ≤ x) (hne : x ≠ i) {w : List Int} (hl : (w.length : Int) = c.len) (v : Int) :
    cfTwo c (putS c w i v) i sd x = putS c (putS c w x (withI (sWd c w x) (1 - sd) i)) i (withI v sd x) := by
  unfold cfTwo
  rw [sWd_put_ne hr h0 h1 hx hne]
  have hn := ix4_ne hr h0 h1 hx hne
  have e : putS c (putS c w i v) x (withI (sWd c w x) (1 - sd) i) = putS c (putS c w x (withI (sWd c w x) (1 - sd) i)) i v := putS_comm w hn _ _
  rw [e, sWd_put_same hr h0 h1 (by rw [putS_len]; exact hl), putS_put]
theorem cfs_acc {c : Cfg} (hr : c.Right) {i sd n : Int} (h0 : 0 ≤ i) (h1 : i < c.s) : ∀ (L : List Int) (w : List Int) (v : Int), (∀ x ∈ L, 0 ≤ x ∧ x ≠ i) → (w.length : Int) = c.len →
    cfs c i sd n (putS c w i v) L = (putS c (acc c i sd n w L).1 i (wths sd (acc c i sd n w L).2.1 v), (acc c i sd n w L).2.2)
  | [], _, _, _, _ => rfl
  | x :: xs, w, v, hL, hl => by
    obtain ⟨hx, hne⟩ := hL x List.mem_cons_self
    have hL' := fun y hy => hL y (List.mem_cons_of_mem _ hy)
    unfold cfs acc
    rw [sWd_put_ne hr h0 h1 hx hne, nWd_put hr h0 h1 hx]
    by_cases hg : goneI (sWd c w x) (nWd c w x) n = true
    · rw [if_pos hg, if_pos hg]
      exact cfs_acc hr h0 h1 xs w v hL' hl
    · rw [if_neg hg, if_neg hg]
      by_cases hb : barI (sWd c w x) (1 - sd) i = true
      · rw [if_pos hb, if_pos hb]
        rfl
      · rw [if_neg hb, if_neg hb, cfTwo_put hr h0 h1 hx hne hl]
        exact cfs_acc hr h0 h1 xs _ _ hL' (by rw [putS_len]; exact hl)
theorem acc_len (c : Cfg) (i sd n : Int) : ∀ (L w : List Int), (acc c i sd n w L).1.length = w.length
  | [], _ => rfl
  | x :: xs, w => by
    unfold acc
    split
    · exact acc_len c i sd n xs w
    · split
      · rfl
      · rw [acc_len c i sd n xs, putS_len]
/-- What is not one of the others' statuses stays. -/
theorem acc_ne {c : Cfg} {i sd n : Int} {p : Int} : ∀ (L w : List Int), (∀ x ∈ L, cellIx c 4 x ≠ p) → getW (acc c i sd n w L).1 p = getW w p
  | [], _, _ => rfl
  | x :: xs, w, h => by
    unfold acc
    split
    · exact acc_ne xs w fun y hy => h y (List.mem_cons_of_mem _ hy)
    · split
      · rfl
      · rw [acc_ne xs _ fun y hy => h y (List.mem_cons_of_mem _ hy)]
        exact getW_set_ne (h x List.mem_cons_self)
theorem with_nn {v : Int} (h : 0 ≤ v) (sd x : Int) : 0 ≤ withI v sd x := by
  have := withI_hi h sd x
  omega
theorem wths_nu {sd : Int} : ∀ (L : List Int) {v : Int}, 0 ≤ v → nuI (wths sd L v) 27 3 = nuI v 27 3
  | [], _, _ => rfl
  | x :: xs, _, h => by
    show nuI (wths sd xs (withI _ sd x)) 27 3 = _
    rw [wths_nu xs (with_nn h sd x), nuI_with h]
theorem wths_nn {sd : Int} : ∀ (L : List Int) {v : Int}, 0 ≤ v → 0 ≤ wths sd L v
  | [], _, h => h
  | x :: xs, _, h => wths_nn xs (with_nn h sd x)
theorem wths_gen {sd : Int} : ∀ (L : List Int) {v : Int}, 0 ≤ v → nuI (wths sd L v) 30 32 = nuI v 30 32
  | [], _, _ => rfl
  | x :: xs, _, h => by
    show nuI (wths sd xs (withI _ sd x)) 30 32 = _
    rw [wths_gen xs (with_nn h sd x), with_gen h]
theorem wths_busy {sd : Int} : ∀ (L : List Int) (v : Int), bitI (wths sd L v) 26 = bitI v 26
  | [], _ => rfl
  | x :: xs, v => by
    show bitI (wths sd xs (withI v sd x)) 26 = _
    rw [wths_busy xs, with_busy]
theorem wths_mv {sd : Int} (st : Int) (b : Bool) : ∀ (L : List Int) (v : Int), wths sd L (mvI v st b) = mvI (wths sd L v) st b
  | [], _ => rfl
  | x :: xs, v => by
    show wths sd xs (withI (mvI v st b) sd x) = mvI (wths sd xs (withI v sd x)) st b
    rw [mv_with, wths_mv st b xs]
theorem wths_wd {sd : Int} : ∀ (L : List Int) {v : Int}, Wd v → Wd (wths sd L v)
  | [], _, h => h
  | x :: xs, _, h => wths_wd xs (withI_rng h sd x)
/-- All are gone: nothing is laid. -/
theorem acc_gone {c : Cfg} {i sd n : Int} : ∀ (L w : List Int), (∀ x ∈ L, goneI (sWd c w x) (nWd c w x) n = true) → acc c i sd n w L = (w, [], true)
  | [], _, _ => rfl
  | x :: xs, w, h => by
    unfold acc
    rw [if_pos (h x List.mem_cons_self)]
    exact acc_gone xs w fun y hy => h y (List.mem_cons_of_mem _ hy)
end Go.Proofs.YtocfhiafegkfkaaGreat.Ct
namespace Go.Proofs.YtocfhiafegkfkaaGreat.Ct
open Go Go.Proofs Go.Proofs.YtocfhiafegkfkaaGreat.Ev
open Go.RowKit

theorem WfW.sWd {c : Cfg} {w : List Int} (h : WfW w) (x : Int) : Wd (sWd c w x) := h.getW _
theorem WfW.putS {c : Cfg} {w : List Int} (h : WfW w) (x : Int) {v : Int} (hv : Wd v) : WfW (putS c w x v) := h.setW _ hv.1 hv.2
/-- Whether one goes on with it, by the words. -/
def gnW (c : Cfg) (n : Int) (w : List Int) (x : Int) : Bool := goneI (sWd c w x) (nWd c w x) n
theorem gone_with {s : Int} (h : 0 ≤ s) (m n a b : Int) : goneI (withI s a b) m n = goneI s m n := by
  unfold goneI
  rw [nuI_with h]
theorem sWd_put_any {c : Cfg} (hr : c.Right) {x y : Int} (hx : 0 ≤ x) (hy : 0 ≤ y) {w : List Int} (hl : (w.length : Int) = c.len) (v : Int) : sWd c (putS c w x v) y = if y = x ∧ x < c.s then v else sWd c w y := by
  by_cases h1 : x < c.s
  · by_cases h2 : y = x
    · subst h2
      rw [if_pos ⟨rfl, h1⟩, sWd_put_same hr hx h1 hl]
    · rw [if_neg (fun h => h2 h.1), sWd_put_ne hr hx h1 hy h2]
  · rw [if_neg (fun h => h1 h.2)]
    unfold putS
    rw [ix_over (.inl rfl) (by omega)]
    rfl
theorem nWd_put_any {c : Cfg} (hr : c.Right) {x y : Int} (hx : 0 ≤ x) (hy : 0 ≤ y) (w : List Int) (v : Int) : nWd c (putS c w x v) y = nWd c w y := by
  by_cases h1 : x < c.s
  · exact nWd_put hr hx h1 hy w v
  · unfold putS
    rw [ix_over (.inl rfl) (by omega)]
    rfl
/-- One end that is laid: whom it is laid to, goes on as it did. -/
theorem gn_lay {c : Cfg} (hr : c.Right) {n x y a i : Int} (hx : 0 ≤ x) (hy : 0 ≤ y) {w : List Int} (hl : (w.length : Int) = c.len) (hw : WfW w) : gnW c n (putS c w x (withI (sWd c w x) a i)) y = gnW c n w y := by
  unfold gnW
  rw [nWd_put_any hr hx hy, sWd_put_any hr hx hy hl]
  split
  · rename_i h
    rw [h.1, gone_with (hw.sWd x).1]
  · rfl
theorem has_lay {c : Cfg} (hr : c.Right) {x y a i : Int} (hx : 0 ≤ x) (hy : 0 ≤ y) {w : List Int} (hl : (w.length : Int) = c.len) {b j : Int} (h : hasI (sWd c w y) b j = true) : hasI (sWd c (putS c w x (withI (sWd c w x) a i)) y) b j = true := by
  rw [sWd_put_any hr hx hy hl]
  split
  · rename_i e
    rw [e.1] at h
    exact has_stays h _ _
  · exact h
theorem gn_over {c : Cfg} {n x : Int} {w : List Int} (h : c.s ≤ x) : gnW c n w x = true := gone_over h
/-- What a laying to the end comes to. -/
theorem acc_all {c : Cfg} (hr : c.Right) {i sd n : Int} (hi : 0 ≤ i) (hi2 : i ≤ 11) (hsd : 0 ≤ 1 - sd ∧ 1 - sd ≤ 1) : ∀ (L w : List Int), (∀ x ∈ L, 0 ≤ x) → (w.length : Int) = c.len → WfW w → (acc c i sd n w L).2.2 = true →
    (acc c i sd n w L).2.1 = L.filter (fun x => !gnW c n w x) ∧ (∀ y, 0 ≤ y → gnW c n (acc c i sd n w L).1 y = gnW c n w y) ∧ (∀ y b j, 0 ≤ y → hasI (sWd c w y) b j = true → hasI (sWd c (acc c i sd n w L).1 y) b j = true) ∧ (∀ x ∈ L, gnW c n w x = false → hasI (sWd c (acc c i sd n w L).1 x) (1 - sd) i = true)
  | [], w, _, _, _, _ => ⟨rfl, fun _ _ => rfl, fun _ _ _ _ h => h, fun x hx => absurd hx (by simp)⟩
  | x :: xs, w, hL, hl, hw, hm => by
    have hx := hL x List.mem_cons_self
    have hL' : ∀ y ∈ xs, 0 ≤ y := fun y hy => hL y (List.mem_cons_of_mem _ hy)
    unfold acc at hm ⊢
    by_cases hg : goneI (sWd c w x) (nWd c w x) n = true
    · rw [if_pos hg] at hm
      have hg' : gnW c n w x = true := hg
      rw [if_pos hg]
      obtain ⟨h1, h2, h3, h4⟩ := acc_all hr hi hi2 hsd xs w hL' hl hw hm
      refine ⟨by rw [h1, List.filter_cons_of_neg (by simp [hg'])], h2, h3, fun y hy hny => ?_⟩
      rcases List.mem_cons.1 hy with rfl | hy
      · rw [hg'] at hny; cases hny
      · exact h4 y hy hny
    · rw [if_neg hg] at hm ⊢
      have hg' : gnW c n w x = false := eq_false_of_ne_true hg
      have hxs : x < c.s := Int.lt_of_not_ge fun h => by rw [gn_over h] at hg'; cases hg'
      by_cases hb : barI (sWd c w x) (1 - sd) i = true
      · rw [if_pos hb] at hm; cases hm
      · rw [if_neg hb] at hm ⊢
        have hl1 : ((putS c w x (withI (sWd c w x) (1 - sd) i)).length : Int) = c.len := by rw [putS_len]; exact hl
        have hw1 : WfW (putS c w x (withI (sWd c w x) (1 - sd) i)) := hw.putS x (withI_rng (hw.sWd x) _ _)
        obtain ⟨h1, h2, h3, h4⟩ := acc_all hr hi hi2 hsd xs _ hL' hl1 hw1 hm
        have hgn : ∀ y, 0 ≤ y → gnW c n (putS c w x (withI (sWd c w x) (1 - sd) i)) y = gnW c n w y := fun y hy => gn_lay hr hx hy hl hw
        refine ⟨?_, fun y hy => (h2 y hy).trans (hgn y hy), fun y b j hy hh => h3 y b j hy (has_lay hr hx hy hl hh), fun y hy hny => ?_⟩
        · rw [h1, List.filter_cons_of_pos (by simp [hg'])]
          exact congrArg (List.cons x) (List.filter_congr fun y hy => by rw [hgn y (hL' y hy)])
        · rcases List.mem_cons.1 hy with rfl | hy
          · refine h3 y (1 - sd) i hx ?_
            rw [sWd_put_same hr hx hxs hl]
            exact hasI_with hsd.1 hsd.2 hi hi2
          · exact h4 y hy ((hgn y (hL' y hy)).trans hny)
/-- All that go on have it: nothing is laid. -/
theorem acc_stays {c : Cfg} {i sd n : Int} : ∀ (L w : List Int), (∀ x ∈ L, gnW c n w x = false → hasI (sWd c w x) (1 - sd) i = true) → acc c i sd n w L = (w, L.filter (fun x => !gnW c n w x), true)
  | [], _, _ => rfl
  | x :: xs, w, h => by
    have h' : ∀ y ∈ xs, gnW c n w y = false → hasI (sWd c w y) (1 - sd) i = true := fun y hy => h y (List.mem_cons_of_mem _ hy)
    unfold acc
    by_cases hg : goneI (sWd c w x) (nWd c w x) n = true
    · have hg' : gnW c n w x = true := hg
      rw [if_pos hg, acc_stays xs w h', List.filter_cons_of_neg (by simp [hg'])]
    · have hg' : gnW c n w x = false := eq_false_of_ne_true hg
      have hh := h x List.mem_cons_self hg'
      have hb : barI (sWd c w x) (1 - sd) i = false := by unfold barI; rw [hh]; rfl
      rw [if_neg hg, if_neg (by rw [hb]; decide), withI_has hh, putS_self, acc_stays xs w h', List.filter_cons_of_pos (by simp [hg'])]
theorem acc_put {c : Cfg} (hr : c.Right) {i sd n : Int} (h0 : 0 ≤ i) (h1 : i < c.s) (v : Int) : ∀ (L w : List Int), (∀ x ∈ L, 0 ≤ x ∧ x ≠ i) → acc c i sd n (putS c w i v) L = (putS c (acc c i sd n w L).1 i v, (acc c i sd n w L).2)
  | [], _, _ => rfl
  | x :: xs, w, hL => by
    obtain ⟨hx, hne⟩ := hL x List.mem_cons_self
    have hL' := fun y hy => hL y (List.mem_cons_of_mem _ hy)
    unfold acc
    rw [sWd_put_ne hr h0 h1 hx hne, nWd_put hr h0 h1 hx]
    by_cases hg : goneI (sWd c w x) (nWd c w x) n = true
    · rw [if_pos hg, if_pos hg]
      exact acc_put hr h0 h1 v xs w hL'
    · rw [if_neg hg, if_neg hg]
      by_cases hb : barI (sWd c w x) (1 - sd) i = true
      · rw [if_pos hb, if_pos hb]
      · rw [if_neg hb, if_neg hb]
        have e : putS c (putS c w i v) x (withI (sWd c w x) (1 - sd) i) = putS c (putS c w x (withI (sWd c w x) (1 - sd) i)) i v := putS_comm w (ix4_ne hr h0 h1 hx hne) _ _
        rw [e, acc_put hr h0 h1 v xs _ hL']
theorem wths_stays {sd : Int} : ∀ (L : List Int) (v : Int) {b j : Int}, hasI v b j = true → hasI (wths sd L v) b j = true
  | [], _, _, _, h => h
  | x :: xs, _, _, _, h => wths_stays xs _ (has_stays h sd x)
theorem wths_has {sd : Int} (hsd : 0 ≤ sd ∧ sd ≤ 1) : ∀ (L : List Int) (v : Int), (∀ x ∈ L, 0 ≤ x ∧ x ≤ 11) → ∀ x ∈ L, hasI (wths sd L v) sd x = true
  | [], _, _, x, hx => absurd hx (by simp)
  | y :: ys, v, h, x, hx => by
    rcases List.mem_cons.1 hx with rfl | hx
    · exact wths_stays ys _ (hasI_with hsd.1 hsd.2 (h x List.mem_cons_self).1 (h x List.mem_cons_self).2)
    · exact wths_has hsd ys _ (fun z hz => h z (List.mem_cons_of_mem _ hz)) x hx
theorem wths_of_has {sd : Int} : ∀ (L : List Int) (v : Int), (∀ x ∈ L, hasI v sd x = true) → wths sd L v = v
  | [], _, _ => rfl
  | x :: xs, v, h => by
    show wths sd xs (withI v sd x) = v
    rw [withI_has (h x List.mem_cons_self)]
    exact wths_of_has xs v fun y hy => h y (List.mem_cons_of_mem _ hy)
theorem acc_sub {c : Cfg} {i sd n : Int} : ∀ (L w : List Int), ∀ x ∈ (acc c i sd n w L).2.1, x ∈ L
  | [], _, x, hx => hx
  | y :: ys, w, x, hx => by
    unfold acc at hx
    split at hx
    · exact List.mem_cons_of_mem _ (acc_sub ys w x hx)
    · split at hx
      · exact absurd hx (by simp)
      · rcases List.mem_cons.1 hx with rfl | hx
        · exact List.mem_cons_self
        · exact List.mem_cons_of_mem _ (acc_sub ys _ x hx)
theorem acc_wf {c : Cfg} {i sd n : Int} : ∀ (L w : List Int), WfW w → WfW (acc c i sd n w L).1
  | [], _, h => h
  | x :: xs, w, h => by
    unfold acc
    split
    · exact acc_wf xs w h
    · split
      · exact h
      · exact acc_wf xs _ (h.putS x (withI_rng (h.sWd x) _ _))
end Go.Proofs.YtocfhiafegkfkaaGreat.Ct
namespace Go.Proofs.YtocfhiafegkfkaaGreat.Ct
open Go Go.Proofs Go.Proofs.YtocfhiafegkfkaaGreat.Ev
open Go.RowKit

theorem drop_cons {L : List Int} {a : Nat} (h : a < L.length) : L.drop a = L.getD a 0 :: L.drop (a + 1) := by
  rw [List.drop_eq_getElem_cons h, List.getD_eq_getElem?_getD, List.getElem?_eq_getElem h]
  rfl
theorem w64_10 : w64 (1 - 0) = 1 := rfl
end Go.Proofs.YtocfhiafegkfkaaGreat.Ct
namespace Go.Proofs.YtocfhiafegkfkaaGreat.Ct
open Go Go.Proofs Go.Proofs.YtocfhiafegkfkaaGreat.Ev
open Go.RowKit

/-- What is amiss with an entering of the one state 2. -/
def fltR (s h : Int) : Int := fltI s h [2]
theorem flt_ok {s h : Int} (hf : fltR s h = 0) : nuI s 30 32 = tkG h ∧ nuI s 27 3 = 2 ∧ bitI s 26 = false := by
  unfold fltR fltI at hf
  split at hf
  · omega
  · rename_i h1
    split at hf
    · omega
    · split at hf
      · omega
      · split at hf
        · omega
        · rename_i h4
          split at hf
          · rename_i h5
            refine ⟨by simpa using h1, ?_, eq_false_of_ne_true h4⟩
            simpa [inB] using h5
          · omega
theorem flt_of {s h : Int} (h1 : nuI s 30 32 = tkG h) (h2 : nuI s 27 3 = 2) (h3 : bitI s 26 = false) : fltR s h = 0 := by
  unfold fltR fltI
  rw [h1, h2, h3, if_neg (by simp), if_neg (by decide), if_neg (by decide), if_neg (by decide), if_pos (by decide)]
theorem flt_rng (s h : Int) : fltR s h = 0 ∨ fltR s h = 2 ∨ fltR s h = 3 ∨ fltR s h = 4 := by
  unfold fltR fltI
  split
  · omega
  · split
    · omega
    · split
      · omega
      · split
        · omega
        · split <;> omega
theorem ofOk_rng {h s : Int} (ho : ofOk h s = true) : 0 ≤ tkS h ∧ tkS h < s ∧ tkS h ≤ 11 := by
  unfold ofOk at ho
  simp only [Bool.and_eq_true, decide_eq_true_eq] at ho
  obtain ⟨⟨h1, h2⟩, _⟩ := ho
  have h3 := tkOk_iff.1 h1
  unfold tkS at h2 ⊢
  rw [if_pos h1] at h2 ⊢
  omega
theorem newE_ok {c : Cfg} {h key : Int} (he : rdNewE c h key = 0) : 0 ≤ key ∧ key < c.k ∧ ofOk h c.s = true := by
  unfold rdNewE at he
  split at he
  · omega
  · split at he
    · omega
    · split at he
      · rename_i h3
        exact ⟨by omega, by omega, h3⟩
      · omega
theorem oth_mem {w k s x : Int} (h : x ∈ othL w k s) : 0 ≤ x ∧ x ≤ 11 ∧ x ≠ s ∧ hasI w k x = true := by
  unfold othL butL upK at h
  rw [List.mem_filter, List.mem_filter, List.mem_map] at h
  obtain ⟨⟨⟨y, hy, rfl⟩, h2⟩, h3⟩ := h
  rw [List.mem_range] at hy
  have h3 := of_decide_eq_true h3
  exact ⟨Int.natCast_nonneg y, by show (y : Int) ≤ 11; omega, h3, h2⟩
theorem en_look {h : Int} {m : Mm} (ho : ofOk h m.c.s = true) : enSt (Et.w2 ⟨tkS h, 0, h, false, false, 0, 0⟩) m = ⟨tkS h, sWd m.c m.w (tkS h), h, row2, fltR (sWd m.c m.w (tkS h)) h == 0, fltR (sWd m.c m.w (tkS h)) h != 0, fltR (sWd m.c m.w (tkS h)) h, 0⟩ ∧ enMe (Et.w2 ⟨tkS h, 0, h, false, false, 0, 0⟩) m = mLd m 4 (tkS h) := by
  unfold enSt enMe Et.w2
  simp only [ho, if_true, Bool.false_eq_true, if_false]
  exact ⟨rfl, trivial⟩
theorem en_swap {h s : Int} {m : Mm} (ho : ofOk h m.c.s = true) (hd : dnS m 4 (tkS h) s = true) : enSt (Et.w2 ⟨tkS h, s, h, true, false, 0, 0⟩) m = ⟨tkS h, s, h, row2, false, true, 0, mvI s (nuI s 27 3) true⟩ ∧ enMe (Et.w2 ⟨tkS h, s, h, true, false, 0, 0⟩) m = mSw m 4 (tkS h) s (mvI s (nuI s 27 3) true) := by
  unfold enSt enMe Et.w2
  simp only [ho, hd, if_true, Bool.false_eq_true, if_false]
  exact ⟨trivial, trivial⟩
end Go.Proofs.YtocfhiafegkfkaaGreat.Ct
namespace Go.Proofs.YtocfhiafegkfkaaGreat.Ct
open Go Go.Proofs Go.Proofs.YtocfhiafegkfkaaGreat.Ev
open Go.RowKit

theorem atI_ne {k k' x i : Int} (hx0 : 0 ≤ x) (hx1 : x ≤ 11) (hi0 : 0 ≤ i) (hi1 : i ≤ 11) (hne : k ≠ k') (h : 0 ≤ atI k x) : atI k' i ≠ atI k x := by
  unfold atI at h ⊢
  split at h
  · omega
  · rename_i h1
    rw [if_neg h1]
    split <;> omega
/-- The marks of the other kind are not told by one that is laid. -/
theorem oth_with {w k k' i s : Int} (hi0 : 0 ≤ i) (hi1 : i ≤ 11) (hne : k ≠ k') : othL (withI w k' i) k s = othL w k s := by
  unfold othL upK
  congr 1
  refine List.filter_congr fun x hx => ?_
  rw [List.mem_map] at hx
  obtain ⟨y, hy, rfl⟩ := hx
  rw [List.mem_range] at hy
  have hy0 : (0 : Int) ≤ Int.ofNat y := Int.natCast_nonneg y
  have hy1 : Int.ofNat y ≤ 11 := by show (y : Int) ≤ 11; omega
  unfold hasI
  by_cases ha : 0 ≤ atI k (Int.ofNat y)
  · rw [with_bit ha (atI_ne hy0 hy1 hi0 hi1 hne ha)]
  · rw [decide_eq_false ha, Bool.false_and, Bool.false_and]
theorem kWd_put {c : Cfg} (hr : c.Right) {i key : Int} (h0 : 0 ≤ i) (h1 : i < c.s) (k0 : 0 ≤ key) (k1 : key < c.k) (w : List Int) (v : Int) : kWd c (putS c w i v) key = kWd c w key := getW_set_ne (ix_nek hr (.inl rfl) h0 h1 k0 k1)
theorem snWd_put {c : Cfg} (hr : c.Right) {i : Int} (h0 : 0 ≤ i) (h1 : i < c.s) (w : List Int) (v : Int) : snWd c (putS c w i v) i = snWd c w i := getW_set_ne (ix_ne hr (.inl rfl) (.inr (.inl rfl)) h0 h1 h0 h1 (.inl (by decide)))
theorem ix48_ne {c : Cfg} (hr : c.Right) {x key : Int} (hx : 0 ≤ x) (k0 : 0 ≤ key) (k1 : key < c.k) : cellIx c 4 x ≠ cellIx c 8 key := by
  by_cases h : x < c.s
  · exact ix_nek hr (.inl rfl) hx h k0 k1
  · rw [ix_over (k := 4) (n := x) (.inl rfl) (by omega)]
    have := (ix_key_rng hr k0 k1).1
    omega
theorem ix45_ne {c : Cfg} (hr : c.Right) {i x : Int} (h0 : 0 ≤ i) (h1 : i < c.s) (hx : 0 ≤ x) : cellIx c 4 x ≠ cellIx c 5 i := by
  by_cases h : x < c.s
  · exact ix_ne hr (.inl rfl) (.inr (.inl rfl)) hx h h0 h1 (.inl (by decide))
  · rw [ix_over (k := 4) (n := x) (.inl rfl) (by omega)]
    have := (ix_slot_rng hr (k := 5) (.inr (.inl rfl)) h0 h1).1
    omega
end Go.Proofs.YtocfhiafegkfkaaGreat.Ct
