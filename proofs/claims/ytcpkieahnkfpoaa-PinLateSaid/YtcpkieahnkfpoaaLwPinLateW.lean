/- What 'PinLate' comes to, of any input: it returns true and changes nothing that was there. -/
import Derived.Test.YtcpkieahnkfpoaaCtGraced
namespace Go.Proofs.Ytcpkieahnkfpoaa.PinLateDone
open Go Go.Proofs Go.Proofs.Ytcpkieahnkfpoaa.Ev Go.Proofs.Ytcpkieahnkfpoaa.Ct
open Go.RowKit

abbrev fid : FuncId := 10
def args (c : Cfg) (ea la : Int) : List Value := [c.v, .int .i64 ea, .int .i64 la]
def ep (m : Mm) : Int := getW m.w (cellIx m.c 2 0)
def m1 (c : Cfg) : Mm := mLd (nwM c) 2 0
def m2 (c : Cfg) (ea : Int) : Mm := mSt (m1 c) 3 ea (u64 (ep (nwM c) + 1))
def m3 (c : Cfg) (ea : Int) : Mm := mAd (m2 c ea) 2 0 1
def m4 (c : Cfg) (ea : Int) : Mm := mLd (m3 c ea) 2 0
def m5 (c : Cfg) (ea la : Int) : Mm := mSt (m4 c ea) 3 la (u64 (ep (m3 c ea) + 1))
def R1 (c : Cfg) (ea la : Int) : Gr × Mm := itG c.t.toNat (Gr.new la (ep (m2 c ea))) (m5 c ea la)
def m7 (c : Cfg) (ea la : Int) : Mm := mSt (R1 c ea la).2 3 ea 0
def R2 (c : Cfg) (ea la : Int) : Gr × Mm := itG (m7 c ea la).c.t.toNat (Gr.new ea (ep (m2 c ea))) (m7 c ea la)
open Dec in
section
variable (c : Cfg) (ea la : Int)
theorem pl_main : told (doCall E21 20 fid (args c ea la) ⟨[], 0, []⟩ ([Dec.l, Dec.l, Dec.l, Dec.l, f, f, f, f, f] ++ (List.replicate 11 Dec.l ++ [t]))) =
    some (.bool (!(R2 c ea la).1.later), [c.Right, decide (ea < 0) = false, decide (la < 0) = false, decide (ea ≥ c.t) = false, decide (la ≥ c.t) = false, (ea == la) = false,
      (nwM c).ok, (m1 c).ok, (m2 c ea).ok, (m3 c ea).ok, (m4 c ea).ok, (m5 c ea la).ok ∧ c.t ≤ 8 ∧ 0 ≤ c.t, (R1 c ea la).2.ok, (m7 c ea la).ok ∧ (m7 c ea la).c.t ≤ 8 ∧ 0 ≤ (m7 c ea la).c.t, (R1 c ea la).1.later = true]) := by kernel_rfl
theorem pl_1 : told (doCall E21 20 fid (args c ea la) ⟨[], 0, []⟩ ([Dec.l, Dec.l, Dec.l, Dec.l, t] ++ List.replicate 9 Dec.l)) = some (.bool true, [c.Right, decide (ea < 0) = true]) := by kernel_rfl
theorem pl_2 : told (doCall E21 20 fid (args c ea la) ⟨[], 0, []⟩ ([Dec.l, Dec.l, Dec.l, Dec.l, f, t] ++ List.replicate 9 Dec.l)) = some (.bool true, [c.Right, decide (ea < 0) = false, decide (la < 0) = true]) := by kernel_rfl
theorem pl_3 : told (doCall E21 20 fid (args c ea la) ⟨[], 0, []⟩ ([Dec.l, Dec.l, Dec.l, Dec.l, f, f, t] ++ List.replicate 9 Dec.l)) = some (.bool true, [c.Right, decide (ea < 0) = false, decide (la < 0) = false, decide (ea ≥ c.t) = true]) := by kernel_rfl
theorem pl_4 : told (doCall E21 20 fid (args c ea la) ⟨[], 0, []⟩ ([Dec.l, Dec.l, Dec.l, Dec.l, f, f, f, t] ++ List.replicate 9 Dec.l)) = some (.bool true, [c.Right, decide (ea < 0) = false, decide (la < 0) = false, decide (ea ≥ c.t) = false, decide (la ≥ c.t) = true]) := by kernel_rfl
theorem pl_5 : told (doCall E21 20 fid (args c ea la) ⟨[], 0, []⟩ ([Dec.l, Dec.l, Dec.l, Dec.l, f, f, f, f, t] ++ List.replicate 9 Dec.l)) = some (.bool true, [c.Right, decide (ea < 0) = false, decide (la < 0) = false, decide (ea ≥ c.t) = false, decide (la ≥ c.t) = false, (ea == la) = true]) := by kernel_rfl
theorem not_right : told (doCall E19 20 fid (args c ea la) ⟨[], 0, []⟩ ([t] ++ List.replicate 15 Dec.l)) = some (.bool true, [0 ≤ c.len, 8 * c.len ≤ 281474976710656, c.len ≤ 9223372036854775807, (c.len == 0) = true]) := by kernel_rfl
end
theorem walk (c : Cfg) (ea la : Int) (w : World) (_ : (Lit.int .i64 ea).wf = true) (_ : (Lit.int .i64 la).wf = true) :
    Calls Try.prog fid #[c.v, .int .i64 ea, .int .i64 la] w fun e w1 => e = .returned (.bool true) ∧ Below w.heap.size w w1 := by
  have hx : ∀ ρ, (args c ea la).map (ren ρ) = args c ea la := fun ρ => by simp [args, Cfg.ren_v, ren]
  by_cases hr : c.Right
  · by_cases h1 : ea < 0
    · exact true_nums E21ok (pl_1 c ea la) (pcs_of ⟨hr, decide_eq_true h1, trivial⟩) hx
    by_cases h2 : la < 0
    · exact true_nums E21ok (pl_2 c ea la) (pcs_of ⟨hr, decide_eq_false h1, decide_eq_true h2, trivial⟩) hx
    by_cases h3 : ea ≥ c.t
    · exact true_nums E21ok (pl_3 c ea la) (pcs_of ⟨hr, decide_eq_false h1, decide_eq_false h2, decide_eq_true h3, trivial⟩) hx
    by_cases h4 : la ≥ c.t
    · exact true_nums E21ok (pl_4 c ea la) (pcs_of ⟨hr, decide_eq_false h1, decide_eq_false h2, decide_eq_false h3, decide_eq_true h4, trivial⟩) hx
    by_cases h5 : ea = la
    · exact true_nums E21ok (pl_5 c ea la) (pcs_of ⟨hr, decide_eq_false h1, decide_eq_false h2, decide_eq_false h3, decide_eq_false h4, beq_iff_eq.2 h5, trivial⟩) hx
    have hr' := hr
    unfold Cfg.Right at hr'
    have hlen := Cfg.len_in hr
    have hl : c.len = 2 + c.t + 4 * c.s + c.k := if_pos hr
    have o0 := nwM_ok hr
    have o1 : (m1 c).ok := acc_ok o0 rfl
    have o2 : (m2 c ea).ok := acc_ok o1 (setW_len _ _ _)
    have o3 : (m3 c ea).ok := acc_ok o2 (addW_len _ _ _)
    have o4 : (m4 c ea).ok := acc_ok o3 rfl
    have o5 : (m5 c ea la).ok := acc_ok o4 (setW_len _ _ _)
    obtain ⟨o6, c6, w6⟩ := itG_ok c.t.toNat (Gr.new la (ep (m2 c ea))) _ o5
    have c6' : (R1 c ea la).2.c = c := c6
    have w6' : (R1 c ea la).2.w = (m5 c ea la).w := w6
    have o7 : (m7 c ea la).ok := acc_ok o6 (setW_len _ _ _)
    have c7 : (m7 c ea la).c = c := c6'
    have ipe := ix_pin hr (th := ea) (by omega) (by omega)
    have ipl := ix_pin hr (th := la) (by omega) (by omega)
    have ie := ix_epoch hr
    have z : ((zW c).length : Int) = c.len := zW_len hr
    have u1 : u64 (0 + 1) = 1 := by rw [w_u64 (by omega) (by omega)]; rfl
    have u2 : u64 (1 + 1) = 2 := by rw [w_u64 (by omega) (by omega)]; rfl
    have e0 : ep (nwM c) = 0 := getW_zero c _
    have w2 : (m2 c ea).w = setW (zW c) (cellIx c 3 ea) 1 := by
      show setW (zW c) (cellIx c 3 ea) (u64 (ep (nwM c) + 1)) = _
      rw [e0, u1]
    have e2 : ep (m2 c ea) = 0 := by
      show getW (m2 c ea).w (cellIx c 2 0) = 0
      rw [w2, getW_set_ne (by omega)]
      exact getW_zero c _
    have w3 : (m3 c ea).w = setW (m2 c ea).w (cellIx c 2 0) 1 := by
      show setW (m2 c ea).w (cellIx c 2 0) (u64 (ep (m2 c ea) + 1)) = _
      rw [e2, u1]
    have l2 : ((m2 c ea).w.length : Int) = c.len := o2.2
    have l3 : ((m3 c ea).w.length : Int) = c.len := o3.2
    have e3 : ep (m3 c ea) = 1 := by
      show getW (m3 c ea).w (cellIx c 2 0) = 1
      rw [w3]
      exact getW_set_same (by omega) (by omega)
    have w5 : (m5 c ea la).w = setW (m3 c ea).w (cellIx c 3 la) 2 := by
      show setW (m3 c ea).w (cellIx c 3 la) (u64 (ep (m3 c ea) + 1)) = _
      rw [e3, u2]
    have hne : cellIx c 3 la ≠ cellIx c 3 ea := by omega
    have p5e : getW (m5 c ea la).w (cellIx c 3 ea) = 1 := by
      rw [w5, getW_set_ne hne, w3, getW_set_ne (by omega), w2]
      exact getW_set_same (by omega) (by omega)
    obtain ⟨_, s1⟩ := graced_spec la (ep (m2 c ea)) (m5 c ea la) (show c.t ≤ 8 by omega) c.t.toNat (show c.t ≤ _ by omega)
    have x1 : (R1 c ea la).1.later = true := s1.2 ⟨ea, by omega, (by show ea < c.t; omega), h5, by
      show ltr (getW (m5 c ea la).w (cellIx c 3 ea)) (ep (m2 c ea)) = true
      rw [p5e, e2]
      decide +kernel⟩
    obtain ⟨_, s2⟩ := graced_spec ea (ep (m2 c ea)) (m7 c ea la) (by rw [c7]; omega) (m7 c ea la).c.t.toNat (by rw [c7]; omega)
    have w7 : (m7 c ea la).w = setW (m5 c ea la).w (cellIx c 3 ea) 0 := by
      show setW (R1 c ea la).2.w (cellIx (R1 c ea la).2.c 3 ea) 0 = _
      rw [c6', w6']
    have l5 : ((m5 c ea la).w.length : Int) = c.len := o5.2
    have x2 : (R2 c ea la).1.later = false := by
      rw [← Bool.not_eq_true]
      intro hcon
      obtain ⟨t, t1, t2, t3, t4⟩ := s2.1 hcon
      rw [c7] at t2
      have t4' : ltr (getW (m7 c ea la).w (cellIx (m7 c ea la).c 3 t)) (ep (m2 c ea)) = true := t4
      have ipt := ix_pin hr (th := t) (by omega) t2
      rw [c7, e2, w7, getW_set_ne (by omega), w5] at t4'
      by_cases hl' : t = la
      · subst hl'
        rw [getW_set_same (by omega) (by omega)] at t4'
        exact absurd t4' (by decide +kernel)
      · rw [getW_set_ne (by omega), w3, getW_set_ne (by omega), w2, getW_set_ne (by omega), getW_zero] at t4'
        exact absurd t4' (by decide +kernel)
    have hm := pl_main c ea la
    rw [x2] at hm
    exact true_nums E21ok hm (pcs_of ⟨hr, decide_eq_false h1, decide_eq_false h2, decide_eq_false h3, decide_eq_false h4, beq_eq_false_iff_ne.2 h5, o0, o1, o2, o3, o4, ⟨o5, by omega, by omega⟩, o6, ⟨o7, by rw [c7]; omega, by rw [c7]; omega⟩, x1, trivial⟩) hx
  · have hz : c.len = 0 := by unfold Cfg.len; rw [if_neg hr]
    exact true_nums E19ok (not_right c ea la) (pcs_of ⟨by omega, by omega, by omega, by rw [hz]; rfl, trivial⟩) hx
end Go.Proofs.Ytcpkieahnkfpoaa.PinLateDone
