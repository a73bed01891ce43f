/- What 'HelpAlone' comes to, of any input: it returns true and changes nothing that was there. -/
import Derived.Test.YtcpkieahnkfpoaaCtDoc
namespace Go.Proofs.Ytcpkieahnkfpoaa.HelpAloneDone
open Go Go.Proofs Go.Proofs.Ytcpkieahnkfpoaa.Ev Go.Proofs.Ytcpkieahnkfpoaa.Ct
open Go.RowKit

abbrev fid : FuncId := 14
def args (c : Cfg) (a : Option Addr) (n cap : Nat) (sl : Int) : List Value := [c.v, .slice a n cap, .int .i64 sl]
def hp0 (l : List Int) (off : Nat) : Hp := ⟨[(0, .view off (.ints .u64 l u64T))], 1, []⟩
def jv (off : Nat) : Nat := addN off (mulN 0 1) - off
theorem jv_eq (off : Nat) : jv off = 0 := by unfold jv; rw [addN_eq, mulN_eq]; omega
def l0' (l : List Int) (off : Nat) : Int := l.getD (jv off) 0
/-- The word of the Tally. -/
def W (l : List Int) (off : Nat) (sl : Int) : Int := u64 (u64 (u64 (u64 (Int.tdiv (l0' l off) 16) * 16) + u64 sl) + 1)
section
variable (c : Cfg) (l : List Int) (w sl : Int)
def m1 : Mm := mSt (newM c l) 1 0 w
def a1 : Mm := mLd (m1 c l w) 4 sl
def a2 : Mm := mLd (a1 c l w sl) 6 sl
def was : Int := getW (m1 c l w).w (cellIx c 4 sl)
def had : Int := getW (m1 c l w).w (cellIx c 6 sl)
def n1 : Mm := mSw (a2 c l w sl) 6 (pendB w) 0 (seqB w)
def sv : Int := getW (n1 c l w sl).w (cellIx c 4 (pendB w))
def n2 : Mm := mLd (n1 c l w sl) 4 (pendB w)
def n3 : Mm := mSw (n2 c l w sl) 1 0 w (setB w)
def k3 : Mm := mSw (n2 c l w sl) 4 (pendB w) (sv c l w sl) (mvB (sv c l w sl) (bsB (sv c l w sl)))
def k4 : Mm := mSw (k3 c l w sl) 1 0 w (setB w)
end
/-- Behind the end. -/
def e1 (m : Mm) (sl : Int) : Mm := mLd m 4 sl
def e2 (m : Mm) (sl : Int) : Mm := mLd (e1 m sl) 6 sl
def idx (l : List Int) (off : Nat) : List Prop := [(0 : Int) ≤ 0, (0 : Int) < (l.length : Int), off ≤ addN off (mulN 0 1), jv off < l.length]
def q0 (c : Cfg) (l : List Int) (off : Nat) (w sl : Int) : List Prop := [c.Right ∧ (l.length : Int) = c.len ∧ l.length = l.length ∧ off = off, decide (sl < 0) = false, decide (sl ≥ c.s) = false] ++ (idx l off ++ ([decide (l0' l off ≥ 1152921504606846976) = false] ++ (idx l off ++ [(16 : Int) ≠ 0, (newM c l).ok, decide (pendB w ≥ 0) = true, (m1 c l w).ok, (a1 c l w sl).ok, (a2 c l w sl).ok, (n1 c l w sl).ok])))
open Dec in
section
variable (c : Cfg) (l : List Int) (off cap : Nat) (sl : Int)
abbrev A : List Value := args c (some ⟨0, off, none⟩) l.length cap sl
abbrev w : Int := W l off sl
def fin (c : Cfg) (m : Mm) (sl w s x : Int) : List Prop := [(getW m.w (cellIx c 4 sl) == s) = true, (getW m.w (cellIx c 6 sl) == x) = true, (e2 m sl).ok, Wd w]
def vT (c : Cfg) (m : Mm) (w : Int) : Value := .bool (getW m.w (cellIx c 1 0) == setB w)
def fs : List Dec := [Dec.l, f, f, f, t, Dec.l, Dec.l, Dec.l, Dec.l, Dec.l, Dec.l, Dec.l]
def l5 : List Dec := [Dec.l, Dec.l, Dec.l, Dec.l, Dec.l]
def ft : List Dec := [Dec.l, Dec.l, Dec.l, t, t]
theorem ff : callR E30 12 fid (A c l off cap sl) (hp0 l off) (fs ++ ([f] ++ (l5 ++ ([f, f] ++ ft)))) [0] = some (vT c (n3 c l (W l off sl) sl) (W l off sl), hp0 l off, q0 c l off (W l off sl) sl ++ ([(stB (sv c l (W l off sl) sl) == 3) = false, (n2 c l (W l off sl) sl).ok, (n3 c l (W l off sl) sl).ok, (e1 (n3 c l (W l off sl) sl) sl).ok, Wd (was c l (W l off sl) sl), (stB (was c l (W l off sl) sl) == 3) = false, (had c l (W l off sl) sl == 0) = false] ++ fin c (n3 c l (W l off sl) sl) sl (W l off sl) (was c l (W l off sl) sl) (had c l (W l off sl) sl))) := by kernel_rfl
theorem fu : callR E30 12 fid (A c l off cap sl) (hp0 l off) (fs ++ ([f] ++ (l5 ++ ([f, t] ++ ft)))) [0] = some (vT c (n3 c l (W l off sl) sl) (W l off sl), hp0 l off, q0 c l off (W l off sl) sl ++ ([(stB (sv c l (W l off sl) sl) == 3) = false, (n2 c l (W l off sl) sl).ok, (n3 c l (W l off sl) sl).ok, (e1 (n3 c l (W l off sl) sl) sl).ok, Wd (was c l (W l off sl) sl), (stB (was c l (W l off sl) sl) == 3) = false, (had c l (W l off sl) sl == 0) = true, (16 : Int) ≠ 0] ++ fin c (n3 c l (W l off sl) sl) sl (W l off sl) (was c l (W l off sl) sl) (u64 (Int.tdiv (W l off sl) 16)))) := by kernel_rfl
theorem tf : callR E30 12 fid (A c l off cap sl) (hp0 l off) (fs ++ ([t, Dec.l, Dec.l, Dec.l, t] ++ (l5 ++ ([t, f] ++ ft)))) [0] = some (vT c (k4 c l (W l off sl) sl) (W l off sl), hp0 l off, q0 c l off (W l off sl) sl ++ ([(stB (sv c l (W l off sl) sl) == 3) = true, (n2 c l (W l off sl) sl).ok, dnS (n2 c l (W l off sl) sl) 4 (pendB (W l off sl)) (sv c l (W l off sl) sl) = true, (k3 c l (W l off sl) sl).ok, (k4 c l (W l off sl) sl).ok, (e1 (k4 c l (W l off sl) sl) sl).ok, Wd (was c l (W l off sl) sl), (stB (was c l (W l off sl) sl) == 3) = true, Wd (was c l (W l off sl) sl), Wd (was c l (W l off sl) sl), (had c l (W l off sl) sl == 0) = false] ++ fin c (k4 c l (W l off sl) sl) sl (W l off sl) (mvB (was c l (W l off sl) sl) (bsB (was c l (W l off sl) sl))) (had c l (W l off sl) sl))) := by kernel_rfl
theorem tu : callR E30 12 fid (A c l off cap sl) (hp0 l off) (fs ++ ([t, Dec.l, Dec.l, Dec.l, t] ++ (l5 ++ ([t, t] ++ ft)))) [0] = some (vT c (k4 c l (W l off sl) sl) (W l off sl), hp0 l off, q0 c l off (W l off sl) sl ++ ([(stB (sv c l (W l off sl) sl) == 3) = true, (n2 c l (W l off sl) sl).ok, dnS (n2 c l (W l off sl) sl) 4 (pendB (W l off sl)) (sv c l (W l off sl) sl) = true, (k3 c l (W l off sl) sl).ok, (k4 c l (W l off sl) sl).ok, (e1 (k4 c l (W l off sl) sl) sl).ok, Wd (was c l (W l off sl) sl), (stB (was c l (W l off sl) sl) == 3) = true, Wd (was c l (W l off sl) sl), Wd (was c l (W l off sl) sl), (had c l (W l off sl) sl == 0) = true, (16 : Int) ≠ 0] ++ fin c (k4 c l (W l off sl) sl) sl (W l off sl) (mvB (was c l (W l off sl) sl) (bsB (was c l (W l off sl) sl))) (u64 (Int.tdiv (W l off sl) 16)))) := by kernel_rfl
theorem early_1 : callR E30 12 fid (A c l off cap sl) (hp0 l off) [Dec.l, t, Dec.l, Dec.l, Dec.l] [0] = some (.bool true, hp0 l off, [c.Right ∧ (l.length : Int) = c.len ∧ l.length = l.length ∧ off = off, decide (sl < 0) = true]) := by kernel_rfl
theorem early_2 : callR E30 12 fid (A c l off cap sl) (hp0 l off) [Dec.l, f, t, Dec.l, Dec.l] [0] = some (.bool true, hp0 l off, [c.Right ∧ (l.length : Int) = c.len ∧ l.length = l.length ∧ off = off, decide (sl < 0) = false, decide (sl ≥ c.s) = true]) := by kernel_rfl
theorem early_3 : callR E30 12 fid (A c l off cap sl) (hp0 l off) [Dec.l, f, f, t, Dec.l] [0] = some (.bool true, hp0 l off, [c.Right ∧ (l.length : Int) = c.len ∧ l.length = l.length ∧ off = off, decide (sl < 0) = false, decide (sl ≥ c.s) = false] ++ (idx l off ++ [decide (l0' l off ≥ 1152921504606846976) = true])) := by kernel_rfl
theorem not_right (a : Option Addr) (n : Nat) : told (doCall E29 20 fid (args c a n cap sl) ⟨[], 1, []⟩ (t :: List.replicate 10 Dec.l)) = some (.bool true, [(!rightB c) = true]) := by kernel_rfl
theorem not_len (a : Option Addr) (n : Nat) : told (doCall E29 20 fid (args c a n cap sl) ⟨[], 1, []⟩ (f :: t :: List.replicate 10 Dec.l)) = some (.bool true, [(!rightB c) = false, c.Right, ((n : Int) != c.len) = true]) := by kernel_rfl
end
theorem ix_slot {c : Cfg} (hr : c.Right) {k sl : Int} (hk : k = 4 ∨ k = 5 ∨ k = 6 ∨ k = 7) (h0 : 0 ≤ sl) (h1 : sl < c.s) : cellIx c k sl = 2 + c.t + (k - 4) + sl * 4 := by
  unfold cellIx
  rw [if_pos ⟨hr, h0⟩, if_neg (by omega), if_neg (by omega), if_pos hk, if_pos h1]
theorem swp_hit {w : List Int} {i o v : Int} (h : getW w i = o) : swpW w i o v = setW w i v := by
  unfold swpW
  rw [if_pos h]
theorem swp_miss {w : List Int} {i o v : Int} (h : getW w i ≠ o) : swpW w i o v = w := by
  unfold swpW
  rw [if_neg h]
open Dec in
theorem main (c : Cfg) (l : List Int) (off cap : Nat) (sl : Int) (hr : c.Right) (hlen : (l.length : Int) = c.len) (hwf : WfW l) :
    CallC Try.prog fid (args c (some ⟨0, off, none⟩) l.length cap sl) (hp0 l off) (.bool true) (hp0 l off) := by
  have hr' := hr
  unfold Cfg.Right at hr'
  have hl : c.len = 2 + c.t + 4 * c.s + c.k := if_pos hr
  have hq : c.Right ∧ (l.length : Int) = c.len ∧ l.length = l.length ∧ off = off := ⟨hr, hlen, rfl, rfl⟩
  by_cases h1 : sl < 0
  · exact CallC.of_call E30ok (early_1 c l off cap sl) (pcs_of ⟨hq, decide_eq_true h1, trivial⟩) rfl (z1 _)
  by_cases h2 : sl ≥ c.s
  · exact CallC.of_call E30ok (early_2 c l off cap sl) (pcs_of ⟨hq, decide_eq_false h1, decide_eq_true h2, trivial⟩) rfl (z1 _)
  have hidx : ∀ p ∈ idx l off, p := pcs_of ⟨by omega, by omega, by rw [addN_eq]; omega, by rw [jv_eq]; omega, trivial⟩
  by_cases h3 : l0' l off ≥ 1152921504606846976
  · exact CallC.of_call E30ok (early_3 c l off cap sl) (pcs_app (pcs_of ⟨hq, decide_eq_false h1, decide_eq_false h2, trivial⟩) (pcs_app hidx (pcs_of ⟨decide_eq_true h3, trivial⟩))) rfl (z1 _)
  have hx : 0 ≤ l0' l off := by
    have := (hwf.getW 0).1
    rw [getW_in (by omega)] at this
    unfold l0'
    rw [jv_eq]
    exact this
  have eW : W l off sl = l0' l off / 16 * 16 + sl + 1 := by
    unfold W
    rw [tdiv_nn hx, w_u64 (n := l0' l off / 16) (by omega) (by omega), w_u64 (n := l0' l off / 16 * 16) (by omega) (by omega), w_u64 (n := sl) (by omega) (by omega), w_u64 (n := l0' l off / 16 * 16 + sl) (by omega) (by omega), w_u64 (by omega) (by omega)]
  have p_ff := ff c l off cap sl
  have p_fu := fu c l off cap sl
  have p_tf := tf c l off cap sl
  have p_tu := tu c l off cap sl
  generalize hW : W l off sl = w at *
  have w0 : Wd w := ⟨by omega, by omega⟩
  have ep : pendB w = sl := by rw [pendB_eq w0.1 w0.2]; omega
  have ed : u64 (Int.tdiv w 16) = seqB w := by rw [tdiv_nn w0.1, w_u64 (by omega) (by omega), seqB_eq]
  have i4 := ix_slot hr (k := 4) (sl := sl) (by omega) (by omega) (by omega)
  have i6 := ix_slot hr (k := 6) (sl := sl) (by omega) (by omega) (by omega)
  have i0 := ix_tally hr
  have o0 := newM_ok hlen
  have o1 : (m1 c l w).ok := acc_ok o0 (setW_len _ _ _)
  have oa1 : (a1 c l w sl).ok := acc_ok o1 rfl
  have oa2 : (a2 c l w sl).ok := acc_ok oa1 rfl
  have on1 : (n1 c l w sl).ok := acc_ok oa2 (swpW_len _ _ _ _)
  have on2 : (n2 c l w sl).ok := acc_ok on1 rfl
  have on3 : (n3 c l w sl).ok := acc_ok on2 (swpW_len _ _ _ _)
  have ok3 : (k3 c l w sl).ok := acc_ok on2 (swpW_len _ _ _ _)
  have ok4 : (k4 c l w sl).ok := acc_ok ok3 (swpW_len _ _ _ _)
  have len1 : (((m1 c l w).w.length : Nat) : Int) = c.len := o1.2
  have lenn : (((n1 c l w sl).w.length : Nat) : Int) = c.len := on1.2
  have lenk : (((k3 c l w sl).w.length : Nat) : Int) = c.len := ok3.2
  have t1 : getW (m1 c l w).w (cellIx c 1 0) = w := by
    show getW (setW l (cellIx c 1 0) w) (cellIx c 1 0) = w
    exact getW_set_same (by omega) (by omega)
  have hq0 : ∀ p ∈ q0 c l off w sl, p := pcs_app (pcs_of ⟨hq, decide_eq_false h1, decide_eq_false h2, trivial⟩) (pcs_app hidx (pcs_app (pcs_of ⟨decide_eq_false h3, trivial⟩) (pcs_app hidx (pcs_of ⟨by decide, o0, decide_eq_true (by omega), o1, oa1, oa2, on1, trivial⟩))))
  have w1wf : WfW (m1 c l w).w := hwf.setW _ w0.1 w0.2
  have hwas : Wd (was c l w sl) := w1wf.getW _
  have en1 : (n1 c l w sl).w = swpW (m1 c l w).w (cellIx c 6 sl) 0 (seqB w) := by
    show swpW (m1 c l w).w (cellIx c 6 (pendB w)) 0 (seqB w) = _
    rw [ep]
  have hn1 : ∀ j, cellIx c 6 sl ≠ j → getW (n1 c l w sl).w j = getW (m1 c l w).w j := fun j hj => by
    rw [en1]
    by_cases hz : getW (m1 c l w).w (cellIx c 6 sl) = 0
    · rw [swp_hit hz, getW_set_ne hj]
    · rw [swp_miss hz]
  have esv : sv c l w sl = was c l w sl := by
    show getW (n1 c l w sl).w (cellIx c 4 (pendB w)) = _
    rw [ep, hn1 _ (by omega)]
    rfl
  have tn : getW (n1 c l w sl).w (cellIx c 1 0) = w := by rw [hn1 _ (by omega), t1]
  have en3 : (n3 c l w sl).w = setW (n1 c l w sl).w (cellIx c 1 0) (setB w) := swp_hit tn
  have ek3 : (k3 c l w sl).w = setW (n1 c l w sl).w (cellIx c 4 sl) (mvB (was c l w sl) (bsB (was c l w sl))) := by
    show swpW (n1 c l w sl).w (cellIx c 4 (pendB w)) (sv c l w sl) (mvB (sv c l w sl) (bsB (sv c l w sl))) = _
    rw [ep, esv, swp_hit (by rw [hn1 _ (by omega)]; rfl)]
  have tk : getW (k3 c l w sl).w (cellIx c 1 0) = w := by rw [ek3, getW_set_ne (by omega), tn]
  have ek4 : (k4 c l w sl).w = setW (k3 c l w sl).w (cellIx c 1 0) (setB w) := swp_hit tk
  have x6 : getW (n1 c l w sl).w (cellIx c 6 sl) = if had c l w sl = 0 then seqB w else had c l w sl := by
    rw [en1]
    by_cases hz : had c l w sl = 0
    · rw [if_pos hz, swp_hit hz, getW_set_same (by omega) (by omega)]
    · rw [if_neg hz, swp_miss hz]
      rfl
  have vTn : vT c (n3 c l w sl) w = .bool true := by
    unfold vT
    rw [en3, getW_set_same (by omega) (by omega), beq_self_eq_true]
  have vTk : vT c (k4 c l w sl) w = .bool true := by
    unfold vT
    rw [ek4, getW_set_same (by omega) (by omega), beq_self_eq_true]
  have fn : ∀ x, x = getW (n1 c l w sl).w (cellIx c 6 sl) → ∀ p ∈ fin c (n3 c l w sl) sl w (was c l w sl) x, p := fun x hx => by
    refine pcs_of ⟨?_, ?_, acc_ok (acc_ok on3 rfl) rfl, w0, trivial⟩
    · rw [en3, getW_set_ne (by omega), hn1 _ (by omega)]
      exact beq_self_eq_true _
    · rw [en3, getW_set_ne (by omega), hx]
      exact beq_self_eq_true _
  have fk : ∀ x, x = getW (n1 c l w sl).w (cellIx c 6 sl) → ∀ p ∈ fin c (k4 c l w sl) sl w (mvB (was c l w sl) (bsB (was c l w sl))) x, p := fun x hx => by
    refine pcs_of ⟨?_, ?_, acc_ok (acc_ok ok4 rfl) rfl, w0, trivial⟩
    · rw [ek4, getW_set_ne (by omega), ek3, getW_set_same (by omega) (by omega)]
      exact beq_self_eq_true _
    · rw [ek4, getW_set_ne (by omega), ek3, getW_set_ne (by omega), hx]
      exact beq_self_eq_true _
  rw [ed] at p_fu p_tu
  rw [vTn] at p_ff p_fu
  rw [vTk] at p_tf p_tu
  have hdn : dnS (n2 c l w sl) 4 (pendB w) (sv c l w sl) = true := by
    show (decide (0 ≤ cellIx c 4 (pendB w)) && (getW (n1 c l w sl).w (cellIx c 4 (pendB w)) == sv c l w sl)) = true
    rw [ep, decide_eq_true (by omega), Bool.true_and, esv, hn1 _ (by omega)]
    exact beq_self_eq_true _
  by_cases hs : stB (was c l w sl) = 3
  · have bs : (stB (sv c l w sl) == 3) = true := by rw [esv]; exact beq_iff_eq.2 hs
    by_cases hz : had c l w sl = 0
    · rw [if_pos hz] at x6
      exact CallC.of_call E30ok p_tu (pcs_app hq0 (pcs_app (pcs_of ⟨bs, on2, hdn, ok3, ok4, acc_ok ok4 rfl, hwas, beq_iff_eq.2 hs, hwas, hwas, beq_iff_eq.2 hz, by decide, trivial⟩) (fk _ x6.symm))) rfl (z1 _)
    · rw [if_neg hz] at x6
      exact CallC.of_call E30ok p_tf (pcs_app hq0 (pcs_app (pcs_of ⟨bs, on2, hdn, ok3, ok4, acc_ok ok4 rfl, hwas, beq_iff_eq.2 hs, hwas, hwas, beq_eq_false_iff_ne.2 hz, trivial⟩) (fk _ x6.symm))) rfl (z1 _)
  · have bs : (stB (sv c l w sl) == 3) = false := by rw [esv]; exact beq_eq_false_iff_ne.2 hs
    by_cases hz : had c l w sl = 0
    · rw [if_pos hz] at x6
      exact CallC.of_call E30ok p_fu (pcs_app hq0 (pcs_app (pcs_of ⟨bs, on2, on3, acc_ok on3 rfl, hwas, beq_eq_false_iff_ne.2 hs, beq_iff_eq.2 hz, by decide, trivial⟩) (fn _ x6.symm))) rfl (z1 _)
    · rw [if_neg hz] at x6
      exact CallC.of_call E30ok p_ff (pcs_app hq0 (pcs_app (pcs_of ⟨bs, on2, on3, acc_ok on3 rfl, hwas, beq_eq_false_iff_ne.2 hs, beq_eq_false_iff_ne.2 hz, trivial⟩) (fn _ x6.symm))) rfl (z1 _)

theorem walk (c : Cfg) (v : Value) (l : List Int) (x : Int) (w : World) (hl : RowIn .u64 w v l) (_ : (Lit.int .i64 x).wf = true) :
    Calls Try.prog fid #[c.v, v, .int .i64 x] w fun e w1 => e = .returned (.bool true) ∧ Below w.heap.size w w1 :=
  law_cells (E' := E30) (n := 20) E29ok rfl (x := [.int .i64 x]) hl (fun ρ => rfl) (fun hr hlen off cap => ⟨_, main c l off cap x hr hlen (row_wf hl)⟩)
    (fun hr a m cap => ⟨_, _, not_right c cap x a m, pcs_of ⟨by simp [rightB, hr], trivial⟩⟩)
    (fun hr a m cap hlen => ⟨_, _, not_len c cap x a m, pcs_of ⟨by simp [rightB, hr], hr, by simpa using hlen, trivial⟩⟩)
end Go.Proofs.Ytcpkieahnkfpoaa.HelpAloneDone
