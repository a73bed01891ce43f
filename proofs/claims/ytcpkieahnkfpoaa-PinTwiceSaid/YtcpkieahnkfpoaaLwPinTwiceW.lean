/- What 'PinTwice' comes to, of any input: it returns true and changes nothing that was there. -/
import Derived.Test.YtcpkieahnkfpoaaCtNew
namespace Go.Proofs.Ytcpkieahnkfpoaa.PinTwiceDone
open Go Go.Proofs Go.Proofs.Ytcpkieahnkfpoaa.Ev Go.Proofs.Ytcpkieahnkfpoaa.Ct
open Go.RowKit

abbrev fid : FuncId := 11
def args (c : Cfg) (th tk : Int) : List Value := [c.v, .int .i64 th, .int .i64 tk]
def ep (m : Mm) : Int := getW m.w (cellIx m.c 2 0)
def m1 (c : Cfg) : Mm := mLd (nwM c) 2 0
def m2 (c : Cfg) (th : Int) : Mm := mSt (m1 c) 3 th (u64 (ep (nwM c) + 1))
def m3 (c : Cfg) (th : Int) : Mm := mLd (m2 c th) 3 th
def m4 (c : Cfg) (th : Int) : Mm := mSt (m3 c th) 3 th 0
def m5 (c : Cfg) (th tk : Int) : Mm := mAd (m4 c th) 2 0 (u64 tk)
def m6 (c : Cfg) (th tk : Int) : Mm := mLd (m5 c th tk) 2 0
def m7 (c : Cfg) (th tk : Int) : Mm := mSt (m6 c th tk) 3 th (u64 (ep (m5 c th tk) + 1))
open Dec in
section
variable (c : Cfg) (th tk : Int)
theorem pt_main : told (doCall E17 20 fid (args c th tk) ⟨[], 0, []⟩ ([Dec.l, Dec.l, f, f, f, f] ++ (List.replicate 17 Dec.l ++ [t]))) =
    some (.bool (getW (m7 c th tk).w (cellIx c 3 th) == u64 (u64 tk + 1)), [c.Right, decide (th < 0) = false, decide (th ≥ c.t) = false, decide (tk < 0) = false, decide (tk > 1000) = false,
      (nwM c).ok, (m1 c).ok, (m2 c th).ok, (m3 c th).ok, (m4 c th).ok, (m5 c th tk).ok, (m6 c th tk).ok, (getW (m2 c th).w (cellIx c 3 th) == 1) = true, (m7 c th tk).ok]) := by kernel_rfl
theorem pt_1 : told (doCall E17 20 fid (args c th tk) ⟨[], 0, []⟩ ([Dec.l, Dec.l, t] ++ List.replicate 6 Dec.l)) = some (.bool true, [c.Right, decide (th < 0) = true]) := by kernel_rfl
theorem pt_2 : told (doCall E17 20 fid (args c th tk) ⟨[], 0, []⟩ ([Dec.l, Dec.l, f, t] ++ List.replicate 6 Dec.l)) = some (.bool true, [c.Right, decide (th < 0) = false, decide (th ≥ c.t) = true]) := by kernel_rfl
theorem pt_3 : told (doCall E17 20 fid (args c th tk) ⟨[], 0, []⟩ ([Dec.l, Dec.l, f, f, t] ++ List.replicate 6 Dec.l)) = some (.bool true, [c.Right, decide (th < 0) = false, decide (th ≥ c.t) = false, decide (tk < 0) = true]) := by kernel_rfl
theorem pt_4 : told (doCall E17 20 fid (args c th tk) ⟨[], 0, []⟩ ([Dec.l, Dec.l, f, f, f, t] ++ List.replicate 6 Dec.l)) = some (.bool true, [c.Right, decide (th < 0) = false, decide (th ≥ c.t) = false, decide (tk < 0) = false, decide (tk > 1000) = true]) := by kernel_rfl
theorem not_right : told (doCall E15 20 fid (args c th tk) ⟨[], 0, []⟩ ([t] ++ List.replicate 8 Dec.l)) = some (.bool true, [0 ≤ c.len, 8 * c.len ≤ 281474976710656, c.len ≤ 9223372036854775807, (c.len == 0) = true]) := by kernel_rfl
end
theorem walk (c : Cfg) (th tk : Int) (w : World) (_ : (Lit.int .i64 th).wf = true) (_ : (Lit.int .i64 tk).wf = true) :
    Calls Try.prog fid #[c.v, .int .i64 th, .int .i64 tk] w fun e w1 => e = .returned (.bool true) ∧ Below w.heap.size w w1 := by
  have hx : ∀ ρ, (args c th tk).map (ren ρ) = args c th tk := fun ρ => by simp [args, Cfg.ren_v, ren]
  by_cases hr : c.Right
  · by_cases h1 : th < 0
    · exact true_nums E17ok (pt_1 c th tk) (pcs_of ⟨hr, decide_eq_true h1, trivial⟩) hx
    by_cases h2 : th ≥ c.t
    · exact true_nums E17ok (pt_2 c th tk) (pcs_of ⟨hr, decide_eq_false h1, decide_eq_true h2, trivial⟩) hx
    by_cases h3 : tk < 0
    · exact true_nums E17ok (pt_3 c th tk) (pcs_of ⟨hr, decide_eq_false h1, decide_eq_false h2, decide_eq_true h3, trivial⟩) hx
    by_cases h4 : tk > 1000
    · exact true_nums E17ok (pt_4 c th tk) (pcs_of ⟨hr, decide_eq_false h1, decide_eq_false h2, decide_eq_false h3, decide_eq_true h4, trivial⟩) hx
    have o0 := nwM_ok hr
    have o1 : (m1 c).ok := acc_ok o0 rfl
    have o2 : (m2 c th).ok := acc_ok o1 (setW_len _ _ _)
    have o3 : (m3 c th).ok := acc_ok o2 rfl
    have o4 : (m4 c th).ok := acc_ok o3 (setW_len _ _ _)
    have o5 : (m5 c th tk).ok := acc_ok o4 (addW_len _ _ _)
    have o6 : (m6 c th tk).ok := acc_ok o5 rfl
    have o7 : (m7 c th tk).ok := acc_ok o6 (setW_len _ _ _)
    have hr' := hr
    unfold Cfg.Right at hr'
    have hlen := Cfg.len_in hr
    have hl : c.len = 2 + c.t + 4 * c.s + c.k := if_pos hr
    have ip := ix_pin hr (th := th) (by omega) (by omega)
    have ie := ix_epoch hr
    have e0 : ep (nwM c) = 0 := getW_zero c _
    have z : ((zW c).length : Int) = c.len := zW_len hr
    have u1 : u64 (0 + 1) = 1 := by rw [w_u64 (by omega) (by omega)]; rfl
    have ut : u64 tk = tk := w_u64 (by omega) (by omega)
    have ut1 : u64 (tk + 1) = tk + 1 := w_u64 (by omega) (by omega)
    have w2 : (m2 c th).w = setW (zW c) (cellIx c 3 th) 1 := by
      show setW (zW c) (cellIx c 3 th) (u64 (ep (nwM c) + 1)) = _
      rw [e0, u1]
    have x1 : getW (m2 c th).w (cellIx c 3 th) = 1 := by rw [w2]; exact getW_set_same (by omega) (by omega)
    have w4 : (m4 c th).w = setW (m2 c th).w (cellIx c 3 th) 0 := rfl
    have e4 : getW (m4 c th).w (cellIx c 2 0) = 0 := by
      rw [w4, getW_set_ne (by omega), w2, getW_set_ne (by omega)]
      exact getW_zero c _
    have l4 : ((m4 c th).w.length : Int) = c.len := o4.2
    have w5 : (m5 c th tk).w = setW (m4 c th).w (cellIx c 2 0) tk := by
      show setW (m4 c th).w (cellIx c 2 0) (u64 (getW (m4 c th).w (cellIx c 2 0) + u64 tk)) = _
      rw [e4, ut, Int.zero_add, ut]
    have e5 : ep (m5 c th tk) = tk := by
      show getW (m5 c th tk).w (cellIx c 2 0) = tk
      rw [w5]
      exact getW_set_same (by omega) (by omega)
    have l6 : ((m6 c th tk).w.length : Int) = c.len := o6.2
    have x7 : getW (m7 c th tk).w (cellIx c 3 th) = tk + 1 := by
      show getW (setW (m6 c th tk).w (cellIx c 3 th) (u64 (ep (m5 c th tk) + 1))) (cellIx c 3 th) = tk + 1
      rw [e5, ut1]
      exact getW_set_same (by omega) (by omega)
    have hm := pt_main c th tk
    rw [x7, ut, ut1, beq_self_eq_true] at hm
    exact true_nums E17ok hm (pcs_of ⟨hr, decide_eq_false h1, decide_eq_false h2, decide_eq_false h3, decide_eq_false h4, o0, o1, o2, o3, o4, o5, o6, by rw [x1]; rfl, o7, trivial⟩) hx
  · have hz : c.len = 0 := by unfold Cfg.len; rw [if_neg hr]
    exact true_nums E15ok (not_right c th tk) (pcs_of ⟨by omega, by omega, by omega, by rw [hz]; rfl, trivial⟩) hx
end Go.Proofs.Ytcpkieahnkfpoaa.PinTwiceDone
