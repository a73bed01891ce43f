/- A read alone, told by the laying of conflicts as the document does; no program in sight. -/
import Derived.Test.YtmpidecpfcikoaaGreatCtCf
import Derived.Test.YtmpidecpfcikoaaGreatCtAl12
import Derived.Test.YtmpidecpfcikoaaGreatCtReadT
namespace Go.Proofs.YtmpidecpfcikoaaGreat.Ct
open Go Go.Proofs Go.Proofs.YtmpidecpfcikoaaGreat.Ev
open Go.RowKit

noncomputable def Ea : Env := Er4o.add brF gBr
theorem Eaok : EnvOk Ea := Er4ook.add gBr_ok
/-- No others. -/
noncomputable def Ea0 : Env := (Ea.add 20 gO0).add cfF gC0
theorem Ea0ok : EnvOk Ea0 := (Eaok.add (gO0_ok rOent fun h => ro_C0 h)).add gC0_ok
/-- Others, and nothing is laid. -/
noncomputable def Ea1 : Env := (Ea.add 20 gO1).add cfF gC0
theorem Ea1ok : EnvOk Ea1 := (Eaok.add (gO1_ok rOent fun h => ro_C1 h)).add gC0_ok
/-- Others, and some are laid. -/
noncomputable def Ea2 : Env := (Ea.add 20 gO1).add cfF gC1
theorem Ea2ok : EnvOk Ea2 := (Eaok.add (gO1_ok rOent fun h => ro_C1 h)).add gC1_ok
end Go.Proofs.YtmpidecpfcikoaaGreat.Ct
namespace Go.Proofs.YtmpidecpfcikoaaGreat.Ct
open Go Go.Proofs Go.Proofs.YtmpidecpfcikoaaGreat.Ev
open Go.RowKit

theorem rdEnd_cfs {c : Cfg} (hr : c.Right) {w : List Int} (hl : (w.length : Int) = c.len) (hw : WfW w) {h i key : Int} (i0 : 0 ≤ i) (i1 : i < c.s) (k0 : 0 ≤ key) (k1 : key < c.k) (hf : fltR (sWd c w i) h = 0) {w0 : List Int} (hw0 : setW w (cellIx c 8 key) (withI (kWd c w key) 0 i) = w0) {W : List Int × Bool} (hW : cfs c i 0 (snWd c w0 i) w0 (othL (kWd c w key) 1 i) = W) :
    rdEnd c w i key = (if W.2 = true then W.1 else putS c W.1 i (mvI (sWd c W.1 i) 5 false), if W.2 = true then 0 else 7) := by
  subst hW
  obtain ⟨f1, f2, f3⟩ := flt_ok hf
  have hL : ∀ x ∈ othL (kWd c w key) 1 i, 0 ≤ x ∧ x ≠ i := fun x hx => ⟨(oth_mem hx).1, (oth_mem hx).2.2.1⟩
  have hl0 : (w0.length : Int) = c.len := by rw [← hw0, setW_len]; exact hl
  have es : sWd c w0 i = sWd c w i := by
    rw [← hw0]
    exact getW_set_ne (ix_nek hr (.inl rfl) i0 i1 k0 k1).symm
  have en : snWd c w0 i = snWd c w i := by
    rw [← hw0]
    exact getW_set_ne (ix_nek hr (.inr (.inl rfl)) i0 i1 k0 k1).symm
  have hcf := cfs_acc hr (i := i) (sd := 0) (n := snWd c w i) i0 i1 (othL (kWd c w key) 1 i) w0 (sWd c w i) hL hl0
  rw [show putS c w0 i (sWd c w i) = w0 by rw [← es]; exact putS_self c w0 i] at hcf
  rw [en, hcf]
  unfold rdEnd
  rw [hw0]
  have hla : ((acc c i 0 (snWd c w i) w0 (othL (kWd c w key) 1 i)).1.length : Int) = c.len := by rw [acc_len]; exact hl0
  have hsw : Wd (sWd c w i) := hw.sWd i
  generalize sWd c w i = s at *
  generalize hA : (acc c i 0 (snWd c w i) w0 (othL (kWd c w key) 1 i)) = A at *
  cases hb : A.2.2 with
  | true =>
    simp only [if_true]
    rw [mv_self (by rw [wths_nu _ hsw.1]; exact f2) (by rw [wths_busy]; exact f3)]
  | false =>
    simp only [Bool.false_eq_true, if_false]
    rw [sWd_put_same hr i0 i1 hla, putS_put]
theorem want_key {c : Cfg} {w : List Int} {h key : Int} (hk : key < 0 ∨ key ≥ c.k) : rdWant c w h key = (w, 5) := by
  have e : rdNewE c h key = 5 := by
    unfold rdNewE
    rcases hk with h | h
    · rw [if_pos h]
    · by_cases h0 : key < 0
      · rw [if_pos h0]
      · rw [if_neg h0, if_pos h]
  unfold rdWant
  rw [e, if_pos (by decide)]
theorem want_bar {c : Cfg} {w : List Int} {h key : Int} (k0 : ¬ key < 0) (k1 : ¬ key ≥ c.k) (hb : brI c w h ≠ 0) : rdWant c w h key = (w, brI c w h) := by
  unfold rdWant rdNewE
  rw [if_neg k0, if_neg k1]
  unfold brI at hb ⊢
  cases ho : ofOk h c.s with
  | false =>
    simp
  | true =>
    rw [ho, if_pos rfl] at hb
    rw [if_pos rfl, if_neg (by decide), if_pos rfl]
    exact if_pos hb
theorem want_go {c : Cfg} {w : List Int} {h key : Int} (k0 : ¬ key < 0) (k1 : ¬ key ≥ c.k) (hb : brI c w h = 0) : ofOk h c.s = true ∧ fltR (sWd c w (tkS h)) h = 0 ∧ rdWant c w h key = rdEnd c w (tkS h) key := by
  unfold brI at hb
  cases ho : ofOk h c.s with
  | false => rw [ho, if_neg (by decide)] at hb; omega
  | true =>
    rw [ho, if_pos rfl] at hb
    refine ⟨rfl, hb, ?_⟩
    unfold rdWant rdNewE
    rw [if_neg k0, if_neg k1, ho, if_pos rfl, if_neg (by decide), if_neg (show ¬ fltR (sWd c w (tkS h)) h ≠ 0 from fun x => x hb)]
theorem cfs_len (c : Cfg) (i sd n : Int) : ∀ (L w : List Int), (cfs c i sd n w L).1.length = w.length
  | [], _ => rfl
  | x :: xs, w => by
    rw [cfs_cons]
    split
    · exact cfs_len c i sd n xs w
    · split
      · rfl
      · rw [cfs_len c i sd n xs, cfTwo_len]
theorem cfs_wf {c : Cfg} {i sd n : Int} : ∀ (L w : List Int), WfW w → WfW (cfs c i sd n w L).1
  | [], _, h => h
  | x :: xs, w, h => by
    rw [cfs_cons]
    split
    · exact cfs_wf xs w h
    · split
      · exact h
      · exact cfs_wf xs _ (cfTwo_wf h i sd x)
end Go.Proofs.YtmpidecpfcikoaaGreat.Ct
