/- What 'GateAgain' comes to, of any input: it returns true and changes nothing that was there. -/
import Derived.Test.YtmliekdbhefpkaaCtPlain3
namespace Go.Proofs.Ytmliekdbhefpkaa.GateAgainDone
open Go Go.Proofs Go.Proofs.Ytmliekdbhefpkaa.Ev Go.Proofs.Ytmliekdbhefpkaa.Ct
open Go.RowKit

noncomputable abbrev fn : Func := Try.f11
abbrev fid : FuncId := 11
abbrev A (c : Cfg) (sl st : Int) : List Value := [c.v, .int .i64 sl, .int .i64 st]
abbrev HH (sl : Int) : Int := u64 (w64 (w64 (0 + sl) + 1))
abbrev e2 (sl : Int) : En := ⟨tkS (HH sl), 0, HH sl, .row true [2], false, false, 0, 0⟩
abbrev e9 (sl st : Int) : En := ⟨tkS (HH sl), 0, HH sl, .row true [st], false, false, 0, 0⟩
abbrev M1 (c : Cfg) (sl : Int) : Mm := mSt (nwM c) 4 sl (nwI 2 0)
abbrev RA (c : Cfg) (sl : Int) : Nat × En × Mm := enRun 20 0 (e2 sl) (M1 c sl)
abbrev M2 (c : Cfg) (sl : Int) : Mm := mLd (RA c sl).2.2 4 sl
abbrev RX (c : Cfg) (sl : Int) : Nat × Lv × Mm := lvRun 20 0 ⟨sl, 0, -1, false, false⟩ (M2 c sl)
abbrev RB (c : Cfg) (sl : Int) : Nat × En × Mm := enRun 20 0 (e2 sl) (RX c sl).2.2
abbrev M4 (c : Cfg) (sl : Int) : Mm := mLd (RB c sl).2.2 4 sl
abbrev RY (c : Cfg) (sl st : Int) : Nat × Lv × Mm := lvRun 20 0 ⟨sl, 0, st, false, false⟩ (M4 c sl)
abbrev RD (c : Cfg) (sl st : Int) : Nat × En × Mm := enRun 20 0 (e2 sl) (RY c sl st).2.2
abbrev RE (c : Cfg) (sl st : Int) : Nat × En × Mm := enRun 20 0 (e9 sl st) (RD c sl st).2.2
abbrev T20 (g : Prop) : Prop := ([.int .i64 20] : List Value) = [.int .i64 (numOf [.int .i64 20])] ∧ numOf [.int .i64 20] ≤ 1000 ∧ g
abbrev T0 (e : En) : Prop := ([] : List Value) = [] ∧ Wd e.h
open Dec in
section
variable (c : Cfg) (sl st : Int)
theorem p_g0 : callR Eg10n 12 fid (A c sl st) ⟨[], 0, []⟩ [t, Dec.l, Dec.l, Dec.l, Dec.l, Dec.l, Dec.l, Dec.l, Dec.l, Dec.l] [] = some (.bool true, ⟨[], 0, []⟩, [c.Right, decide (sl < 0) = true]) := by kernel_rfl
theorem p_g1 : callR Eg10n 12 fid (A c sl st) ⟨[], 0, []⟩ [f, t, Dec.l, Dec.l, Dec.l, Dec.l, Dec.l, Dec.l, Dec.l, Dec.l] [] = some (.bool true, ⟨[], 0, []⟩, [c.Right, decide (sl < 0) = false, decide (sl > 11) = true]) := by kernel_rfl
theorem p_g2 : callR Eg10n 12 fid (A c sl st) ⟨[], 0, []⟩ [f, f, Dec.l, Dec.l, Dec.l, Dec.l, Dec.l, t, Dec.l, Dec.l] [] = some (.bool true, ⟨[], 0, []⟩, [c.Right, decide (sl < 0) = false, decide (sl > 11) = false, decide (sl ≥ c.s) = true]) := by kernel_rfl
theorem p_g3 : callR Eg10n 12 fid (A c sl st) ⟨[], 0, []⟩ [f, f, Dec.l, Dec.l, Dec.l, Dec.l, Dec.l, f, t, Dec.l] [] = some (.bool true, ⟨[], 0, []⟩, [c.Right, decide (sl < 0) = false, decide (sl > 11) = false, decide (sl ≥ c.s) = false, decide (st < 3) = true]) := by kernel_rfl
theorem p_g4 : callR Eg10n 12 fid (A c sl st) ⟨[], 0, []⟩ [f, f, Dec.l, Dec.l, Dec.l, Dec.l, Dec.l, f, f, t] [] = some (.bool true, ⟨[], 0, []⟩, [c.Right, decide (sl < 0) = false, decide (sl > 11) = false, decide (sl ≥ c.s) = false, decide (st < 3) = false, decide (st > 7) = true]) := by kernel_rfl
theorem p_go : callR Eg10n 12 fid (A c sl st) ⟨[], 0, []⟩ [f, f, Dec.l, Dec.l, Dec.l, Dec.l, Dec.l, f, f, f, Dec.l, Dec.l, Dec.l, Dec.l, Dec.l, Dec.l, Dec.l, Dec.l, Dec.l, Dec.l, Dec.l, t, t, t, t] [] = some (.bool (errI (RE c sl st).2.1 (RE c sl st).2.2 == 0), ⟨[], 0, []⟩, [c.Right, decide (sl < 0) = false, decide (sl > 11) = false, decide (sl ≥ c.s) = false, decide (st < 3) = false, decide (st > 7) = false, NwP 2 0, (nwM c).ok, (8 : Nat) ≤ 140737488355328, (1 : Nat) ≤ 9223372036854775807, Wd (HH sl), (8 : Nat) ≤ 140737488355328, (1 : Nat) ≤ 9223372036854775807, Wd (HH sl), (8 : Nat) ≤ 140737488355328, (1 : Nat) ≤ 9223372036854775807, Wd (HH sl), (8 : Nat) ≤ 140737488355328, (1 : Nat) ≤ 9223372036854775807, Wd (HH sl), (1 : Nat) = 1, T20 (enGood (e2 sl) (M1 c sl)), (RA c sl).2.2.ok, T20 (lGood ⟨sl, 0, -1, false, false⟩ (M2 c sl)), (1 : Nat) = 1, T20 (enGood (e2 sl) (RX c sl).2.2), (RB c sl).2.2.ok, T20 (lGood ⟨sl, 0, st, false, false⟩ (M4 c sl)), (1 : Nat) = 1, T20 (enGood (e2 sl) (RY c sl st).2.2), (1 : Nat) = 1, T20 (enGood (e9 sl st) (RD c sl st).2.2),
    (getW (RA c sl).2.2.w (cellIx (RA c sl).2.2.c 4 sl) == getW (RB c sl).2.2.w (cellIx (RB c sl).2.2.c 4 sl)) = true, (1 : Nat) = 1, T0 (RA c sl).2.1, (errI (RA c sl).2.1 (RE c sl st).2.2 == 0) = true, (1 : Nat) = 1, T0 (RB c sl).2.1, (errI (RB c sl).2.1 (RE c sl st).2.2 == 0) = true, (1 : Nat) = 1, T0 (RD c sl st).2.1, (errI (RD c sl st).2.1 (RE c sl st).2.2 == 4) = true, (1 : Nat) = 1, T0 (RE c sl st).2.1]) := by kernel_rfl
theorem p_n0 : told (doCall Eg10a 20 fid (A c sl st) ⟨[], 0, []⟩ ([t, Dec.l, t] ++ List.replicate 20 Dec.l)) = some (.bool true, [0 ≤ c.len, 8 * c.len ≤ 281474976710656, c.len ≤ 9223372036854775807, (c.len == 0) = true, decide (sl < 0) = true]) := by kernel_rfl
theorem p_n1 : told (doCall Eg10a 20 fid (A c sl st) ⟨[], 0, []⟩ ([t, Dec.l, f, t] ++ List.replicate 20 Dec.l)) = some (.bool true, [0 ≤ c.len, 8 * c.len ≤ 281474976710656, c.len ≤ 9223372036854775807, (c.len == 0) = true, decide (sl < 0) = false, decide (sl > 11) = true]) := by kernel_rfl
theorem p_n2 : told (doCall Eg10a 20 fid (A c sl st) ⟨[], 0, []⟩ ([t, Dec.l, f, f] ++ List.replicate 20 Dec.l)) = some (.bool true, [0 ≤ c.len, 8 * c.len ≤ 281474976710656, c.len ≤ 9223372036854775807, (c.len == 0) = true, decide (sl < 0) = false, decide (sl > 11) = false]) := by kernel_rfl
end
theorem path {c : Cfg} {sl st : Int} {ds : List Dec} {ns : List Nat} {pc : List Prop} (h : callR Eg10n 12 fid (A c sl st) ⟨[], 0, []⟩ ds ns = some (.bool true, ⟨[], 0, []⟩, pc)) (hp : ∀ p ∈ pc, p) (w : World) : Calls Try.prog fid ⟨A c sl st⟩ w fun e w1 => e = .returned (.bool true) ∧ Below w.heap.size w w1 :=
  calls_of_C (CallC.of_call Eg10nok h hp rfl (fun k hk => absurd hk (Nat.not_lt_zero k))) rfl none_isV (ρ := id) (fun ρ' _ => by simp [A, Cfg.ren_v, ren]) (HR_none _ 0)
/-- The words that are laid: active, busy, and of another state. -/
theorem flt_2 {h : Int} (hG : tkG h = 0) : fltI (nwI 2 0) h [2] = 0 := by unfold fltI; rw [hG]; rfl
theorem flt_n {h st : Int} (hG : tkG h = 0) (h3 : 3 ≤ st) (h7 : st ≤ 7) : fltI (mvI (nwI 2 0) st false) h [2] = 4 := by
  obtain rfl | rfl | rfl | rfl | rfl : st = 3 ∨ st = 4 ∨ st = 5 ∨ st = 6 ∨ st = 7 := by omega
  all_goals (unfold fltI; rw [hG]; rfl)
theorem flt_s {h st : Int} (hG : tkG h = 0) (h3 : 3 ≤ st) (h7 : st ≤ 7) : fltI (mvI (nwI 2 0) st false) h [st] = 0 := by
  obtain rfl | rfl | rfl | rfl | rfl : st = 3 ∨ st = 4 ∨ st = 5 ∨ st = 6 ∨ st = 7 := by omega
  all_goals (unfold fltI; rw [hG]; rfl)
theorem lv_st {x sl st : Int} (h3 : 3 ≤ st) (h7 : st ≤ 7) : lvW ⟨sl, x, st, true, false⟩ = mvI x st false := by
  unfold lvW
  rw [if_neg (by show ¬ st < 0; omega), if_neg (by show ¬ st > 7; omega)]
theorem bz : mvI (nwI 2 0) (nuI (nwI 2 0) 27 3) true = 335544320 := rfl
theorem bz_s {st : Int} (h3 : 3 ≤ st) (h7 : st ≤ 7) : mvI 335544320 st false = mvI (nwI 2 0) st false := by
  obtain rfl | rfl | rfl | rfl | rfl : st = 3 ∨ st = 4 ∨ st = 5 ∨ st = 6 ∨ st = 7 := by omega
  all_goals rfl
theorem bz_b (sl : Int) : lvW ⟨sl, 335544320, -1, true, false⟩ = nwI 2 0 := rfl
theorem wd_s {st : Int} (h3 : 3 ≤ st) (h7 : st ≤ 7) : Wd (mvI (nwI 2 0) st false) := by
  obtain rfl | rfl | rfl | rfl | rfl : st = 3 ∨ st = 4 ∨ st = 5 ∨ st = 6 ∨ st = 7 := by omega
  all_goals (unfold Wd; decide)
theorem HH_eq {sl : Int} (h0 : 0 ≤ sl) (h1 : sl ≤ 11) : HH sl = sl + 1 := by
  unfold HH
  rw [show (0 : Int) + sl = sl by omega, w64_in (n := sl) (by omega) (by omega), w64_in (n := sl + 1) (by omega) (by omega), w_u64 (by omega) (by omega)]
theorem tkO_eq {sl : Int} (h0 : 0 ≤ sl) (h1 : sl ≤ 11) : tkOk (sl + 1) = true := tkOk_iff.2 (by omega)
theorem tkS_eq {sl : Int} (h0 : 0 ≤ sl) (h1 : sl ≤ 11) : tkS (sl + 1) = sl := by
  unfold tkS
  rw [if_pos (tkO_eq h0 h1)]
  omega
theorem tkG_eq {sl : Int} (h0 : 0 ≤ sl) (h1 : sl ≤ 11) : tkG (sl + 1) = 0 := by
  unfold tkG
  rw [if_neg (by omega)]
  omega
theorem ofOk_eq {sl s : Int} (h0 : 0 ≤ sl) (h1 : sl ≤ 11) (h2 : sl < s) : ofOk (sl + 1) s = true := by
  unfold ofOk
  rw [tkO_eq h0 h1, tkS_eq h0 h1, tkG_eq h0 h1, decide_eq_true h2]
  rfl
/-- An entering alone, of a memory in which the slot's status is known. -/
theorem ent {sl h a : Int} {r : Rw} {m : Mm} {i k : Nat} (ho : ofOk h m.c.s = true) (h4 : 0 ≤ cellIx m.c 4 sl) (ha : getW m.w (cellIx m.c 4 sl) = a) (hF : fltI a h r.l = 0) :
    enRun (k + 2) i ⟨sl, 0, h, r, false, false, 0, 0⟩ m = (i + 2, ⟨sl, a, h, r, false, true, 0, mvI a (nuI a 27 3) true⟩, mSw (mLd m 4 sl) 4 sl a (mvI a (nuI a 27 3) true)) := by
  subst ha
  exact en_alone_yes ho h4 hF
theorem nw2 : 0 ≤ nwI 2 0 ∧ nwI 2 0 ≤ 18446744073709551615 := by decide
attribute [local irreducible] enRun lvRun nwI mvI nuI
theorem walk (c : Cfg) (sl st : Int) (w : World) (_ : (Lit.int .i64 sl).wf = true) (_ : (Lit.int .i64 st).wf = true) :
    Calls Try.prog fid #[c.v, .int .i64 sl, .int .i64 st] w fun e w1 => e = .returned (.bool true) ∧ Below w.heap.size w w1 := by
  have hx : ∀ ρ, (A c sl st).map (ren ρ) = A c sl st := fun ρ => by simp [A, Cfg.ren_v, ren]
  by_cases hr : c.Right
  · by_cases w0 : sl < 0
    · exact path (p_g0 c sl st) (pcs_of ⟨hr, decide_eq_true w0, trivial⟩) w
    by_cases w1 : sl > 11
    · exact path (p_g1 c sl st) (pcs_of ⟨hr, decide_eq_false w0, decide_eq_true w1, trivial⟩) w
    by_cases w2 : sl ≥ c.s
    · exact path (p_g2 c sl st) (pcs_of ⟨hr, decide_eq_false w0, decide_eq_false w1, decide_eq_true w2, trivial⟩) w
    by_cases w3 : st < 3
    · exact path (p_g3 c sl st) (pcs_of ⟨hr, decide_eq_false w0, decide_eq_false w1, decide_eq_false w2, decide_eq_true w3, trivial⟩) w
    by_cases w4 : st > 7
    · exact path (p_g4 c sl st) (pcs_of ⟨hr, decide_eq_false w0, decide_eq_false w1, decide_eq_false w2, decide_eq_false w3, decide_eq_true w4, trivial⟩) w
    have h0 : 0 ≤ sl := by omega
    have h1 : sl ≤ 11 := by omega
    have h2 : sl < c.s := by omega
    have h3 : 3 ≤ st := by omega
    have h7 : st ≤ 7 := by omega
    have hG := tkG_eq h0 h1
    have hO := ofOk_eq h0 h1 h2
    have eE : e2 sl = ⟨sl, 0, sl + 1, .row true [2], false, false, 0, 0⟩ := by unfold e2; rw [HH_eq h0 h1, tkS_eq h0 h1]
    have eF : e9 sl st = ⟨sl, 0, sl + 1, .row true [st], false, false, 0, 0⟩ := by unfold e9; rw [HH_eq h0 h1, tkS_eq h0 h1]
    have wz : Wd 0 := by constructor <;> decide
    have wdH : Wd (HH sl) := by rw [HH_eq h0 h1]; constructor <;> omega
    have o0 := nwM_ok hr
    have z := zW_len hr
    have zf : WfW (zW c) := fun x hx => by
      unfold zW at hx
      rw [List.eq_of_mem_replicate hx]
      decide
    obtain ⟨i0, i1⟩ := ix_slot_rng hr (k := 4) (.inl rfl) h0 h2
    have o1 : (M1 c sl).ok := acc_ok o0 (setW_len _ _ _)
    have f1 : WfW (M1 c sl).w := zf.setW _ nw2.1 nw2.2
    have gA : enGood (e2 sl) (M1 c sl) := ⟨o1, f1, wz, wdH, by show 1 ≤ 1000; decide⟩
    have kA := enRun_good 20 0 _ _ gA
    have g1 : getW (M1 c sl).w (cellIx (M1 c sl).c 4 sl) = nwI 2 0 := getW_set_same i0 (by show _ < ((zW c).length : Int); rw [z]; exact i1)
    have E2 : ∀ {h : Int} {m : Mm}, ofOk h m.c.s = true → tkG h = 0 → 0 ≤ cellIx m.c 4 sl → getW m.w (cellIx m.c 4 sl) = nwI 2 0 → enRun 20 0 ⟨sl, 0, h, .row true [2], false, false, 0, 0⟩ m = (2, ⟨sl, nwI 2 0, h, .row true [2], false, true, 0, 335544320⟩, mSw (mLd m 4 sl) 4 sl (nwI 2 0) 335544320) := fun ho hg h4 ha => by
      have := ent (k := 18) (i := 0) (r := .row true [2]) ho h4 ha (flt_2 hg)
      rw [bz] at this
      exact this
    have rA : RA c sl = (2, ⟨sl, nwI 2 0, sl + 1, .row true [2], false, true, 0, 335544320⟩, mSw (mLd (M1 c sl) 4 sl) 4 sl (nwI 2 0) 335544320) := by
      unfold RA
      rw [eE]
      exact E2 hO hG i0 g1
    have wA : (RA c sl).2.2.w = setW (M1 c sl).w (cellIx c 4 sl) 335544320 := by rw [rA]; exact sw_w g1
    have cA : (RA c sl).2.2.c = c := by rw [rA]; rfl
    have lA : ((M1 c sl).w.length : Int) = c.len := o1.2
    have g2 : getW (M2 c sl).w (cellIx (M2 c sl).c 4 sl) = 335544320 := by
      show getW (RA c sl).2.2.w (cellIx (RA c sl).2.2.c 4 sl) = _
      rw [cA, wA]
      exact getW_set_same i0 (by rw [lA]; exact i1)
    have gX : lGood ⟨sl, 0, -1, false, false⟩ (M2 c sl) := ⟨acc_ok kA.1 rfl, kA.2.1, wz⟩
    have kX := lvRun_good 20 0 _ _ gX
    have c2 : (M2 c sl).c = c := cA
    have rX : RX c sl = (2, ⟨sl, 335544320, -1, false, true⟩, mSw (mLd (M2 c sl) 4 sl) 4 sl 335544320 (nwI 2 0)) := by
      unfold RX
      rw [lv_alone (by rw [c2]; exact i0), g2, bz_b]
    have cX : (RX c sl).2.2.c = c := by rw [rX]; exact c2
    have wX : (RX c sl).2.2.w = setW (M2 c sl).w (cellIx c 4 sl) (nwI 2 0) := by
      rw [rX]
      exact (sw_w g2).trans (by rw [c2])
    have l2 : ((M2 c sl).w.length : Int) = c.len := gX.1.2.trans (congrArg Cfg.len c2)
    have gx : getW (RX c sl).2.2.w (cellIx (RX c sl).2.2.c 4 sl) = nwI 2 0 := by
      rw [cX, wX]
      exact getW_set_same i0 (by rw [l2]; exact i1)
    have gB : enGood (e2 sl) (RX c sl).2.2 := ⟨kX.1, kX.2.1, wz, wdH, by show 1 ≤ 1000; decide⟩
    have kB := enRun_good 20 0 _ _ gB
    have rB : RB c sl = (2, ⟨sl, nwI 2 0, sl + 1, .row true [2], false, true, 0, 335544320⟩, mSw (mLd (RX c sl).2.2 4 sl) 4 sl (nwI 2 0) 335544320) := by
      unfold RB
      rw [eE]
      exact E2 (by rw [cX]; exact hO) hG (by rw [cX]; exact i0) gx
    have cB : (RB c sl).2.2.c = c := by rw [rB]; exact cX
    have wB : (RB c sl).2.2.w = setW (RX c sl).2.2.w (cellIx c 4 sl) 335544320 := by
      rw [rB]
      exact (sw_w gx).trans (by rw [cX])
    have lX : ((RX c sl).2.2.w.length : Int) = c.len := kX.1.2.trans (congrArg Cfg.len cX)
    have g4 : getW (M4 c sl).w (cellIx (M4 c sl).c 4 sl) = 335544320 := by
      show getW (RB c sl).2.2.w (cellIx (RB c sl).2.2.c 4 sl) = _
      rw [cB, wB]
      exact getW_set_same i0 (by rw [lX]; exact i1)
    have gY : lGood ⟨sl, 0, st, false, false⟩ (M4 c sl) := ⟨acc_ok kB.1 rfl, kB.2.1, wz⟩
    have kY := lvRun_good 20 0 _ _ gY
    have c4 : (M4 c sl).c = c := cB
    have rY : RY c sl st = (2, ⟨sl, 335544320, st, false, true⟩, mSw (mLd (M4 c sl) 4 sl) 4 sl 335544320 (mvI (nwI 2 0) st false)) := by
      unfold RY
      rw [lv_alone (by rw [c4]; exact i0), g4, lv_st h3 h7, bz_s h3 h7]
    have cY : (RY c sl st).2.2.c = c := by rw [rY]; exact c4
    have wY : (RY c sl st).2.2.w = setW (M4 c sl).w (cellIx c 4 sl) (mvI (nwI 2 0) st false) := by
      rw [rY]
      exact (sw_w g4).trans (by rw [c4])
    have l4 : ((M4 c sl).w.length : Int) = c.len := gY.1.2.trans (congrArg Cfg.len c4)
    have gy : getW (RY c sl st).2.2.w (cellIx (RY c sl st).2.2.c 4 sl) = mvI (nwI 2 0) st false := by
      rw [cY, wY]
      exact getW_set_same i0 (by rw [l4]; exact i1)
    have gD : enGood (e2 sl) (RY c sl st).2.2 := ⟨kY.1, kY.2.1, wz, wdH, by show 1 ≤ 1000; decide⟩
    have kD := enRun_good 20 0 _ _ gD
    have fD : fltI (getW (RY c sl st).2.2.w (cellIx (RY c sl st).2.2.c 4 sl)) (sl + 1) [2] = 4 := by rw [gy]; exact flt_n hG h3 h7
    have rD : RD c sl st = (1, ⟨sl, mvI (nwI 2 0) st false, sl + 1, .row true [2], false, true, 4, 0⟩, mLd (RY c sl st).2.2 4 sl) := by
      unfold RD
      rw [eE, en_alone_no (by rw [cY]; exact hO) (show fltI (getW (RY c sl st).2.2.w (cellIx (RY c sl st).2.2.c 4 sl)) (sl + 1) [2] ≠ 0 by rw [fD]; decide)]
      show (1, (⟨sl, getW (RY c sl st).2.2.w (cellIx (RY c sl st).2.2.c 4 sl), sl + 1, .row true [2], false, true, fltI (getW (RY c sl st).2.2.w (cellIx (RY c sl st).2.2.c 4 sl)) (sl + 1) [2], 0⟩ : En), mLd (RY c sl st).2.2 4 sl) = _
      rw [fD, gy]
    have gy' := gy
    rw [cY] at gy'
    have cD : (RD c sl st).2.2.c = c := by rw [rD]; exact cY
    have wD : (RD c sl st).2.2.w = (RY c sl st).2.2.w := congrArg (fun x : Nat × En × Mm => x.2.2.w) rD
    have gE : enGood (e9 sl st) (RD c sl st).2.2 := ⟨kD.1, kD.2.1, wz, wdH, by show 1 ≤ 1000; decide⟩
    have gd : getW (RD c sl st).2.2.w (cellIx (RD c sl st).2.2.c 4 sl) = mvI (nwI 2 0) st false := by
      rw [wD, cD]
      exact gy'
    have rE : RE c sl st = (2, ⟨sl, mvI (nwI 2 0) st false, sl + 1, .row true [st], false, true, 0, mvI (mvI (nwI 2 0) st false) (nuI (mvI (nwI 2 0) st false) 27 3) true⟩, mSw (mLd (RD c sl st).2.2 4 sl) 4 sl (mvI (nwI 2 0) st false) (mvI (mvI (nwI 2 0) st false) (nuI (mvI (nwI 2 0) st false) 27 3) true)) := by
      unfold RE
      rw [eF]
      exact ent (by rw [cD]; exact hO) (by rw [cD]; exact i0) gd (flt_s hG h3 h7)
    have cE : (RE c sl st).2.2.c = c := by rw [rE]; exact cD
    have er : ∀ e : En, e.h = sl + 1 → errI e (RE c sl st).2.2 = e.no := fun e he => by
      unfold errI
      rw [he, cE, if_pos hO]
    have hm := p_go c sl st
    have eEE : errI (RE c sl st).2.1 (RE c sl st).2.2 = 0 := by rw [er _ (by rw [rE]), rE]
    rw [eEE] at hm
    have t1 : T0 (RA c sl).2.1 := ⟨rfl, kA.2.2.2.1⟩
    have t2 : T0 (RB c sl).2.1 := ⟨rfl, kB.2.2.2.1⟩
    have t3 : T0 (RD c sl st).2.1 := ⟨rfl, kD.2.2.2.1⟩
    have t4 : T0 (RE c sl st).2.1 := ⟨rfl, (enRun_good 20 0 _ _ gE).2.2.2.1⟩
    have x1 : errI (RA c sl).2.1 (RE c sl st).2.2 = 0 := by rw [er _ (by rw [rA]), rA]
    have x2 : errI (RB c sl).2.1 (RE c sl st).2.2 = 0 := by rw [er _ (by rw [rB]), rB]
    have x3 : errI (RD c sl st).2.1 (RE c sl st).2.2 = 4 := by rw [er _ (by rw [rD]), rD]
    have xw : getW (RA c sl).2.2.w (cellIx (RA c sl).2.2.c 4 sl) = getW (RB c sl).2.2.w (cellIx (RB c sl).2.2.c 4 sl) := by
      have a := g2
      have b := g4
      exact (show getW (RA c sl).2.2.w (cellIx (RA c sl).2.2.c 4 sl) = 335544320 from a).trans (show getW (RB c sl).2.2.w (cellIx (RB c sl).2.2.c 4 sl) = 335544320 from b).symm
    have N1 : (8 : Nat) ≤ 140737488355328 := by decide
    have N2 : (1 : Nat) ≤ 9223372036854775807 := by decide
    have T : ∀ {g : Prop}, g → T20 g := fun hg => ⟨rfl, by decide, hg⟩
    refine path hm (pcs_of ⟨hr, decide_eq_false w0, decide_eq_false w1, decide_eq_false w2, decide_eq_false w3, decide_eq_false w4, ⟨by decide, by decide, by decide, by decide⟩, o0, N1, N2, wdH, N1, N2, wdH, N1, N2, wdH, N1, N2, wdH, rfl, T gA, kA.1, T gX, rfl, T gB, kB.1, T gY, rfl, T gD, rfl, T gE, by rw [xw]; exact beq_self_eq_true _, rfl, t1, by rw [x1]; rfl, rfl, t2, by rw [x2]; rfl, rfl, t3, by rw [x3]; rfl, rfl, t4, trivial⟩) w
  · have hz : c.len = 0 := by unfold Cfg.len; rw [if_neg hr]
    have q : (c.len == 0) = true := by rw [hz]; rfl
    by_cases w0 : sl < 0
    · exact true_nums Eg10aok (p_n0 c sl st) (pcs_of ⟨by omega, by omega, by omega, q, decide_eq_true w0, trivial⟩) hx
    by_cases w1 : sl > 11
    · exact true_nums Eg10aok (p_n1 c sl st) (pcs_of ⟨by omega, by omega, by omega, q, decide_eq_false w0, decide_eq_true w1, trivial⟩) hx
    exact true_nums Eg10aok (p_n2 c sl st) (pcs_of ⟨by omega, by omega, by omega, q, decide_eq_false w0, decide_eq_false w1, trivial⟩) hx
end Go.Proofs.Ytmliekdbhefpkaa.GateAgainDone
