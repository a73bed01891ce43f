/- Plain laws of an entering alone, and of a leaving alone. -/
import Derived.Test.YtmliekdbhefpkaaCtPlay3
namespace Go.Proofs.Ytmliekdbhefpkaa.Ct
open Go Go.Proofs Go.Proofs.Ytmliekdbhefpkaa.Ev
open Go.RowKit

theorem en_stop {j : En} {m : Mm} (h : (j.dn || !ofOk j.h m.c.s) = true) (n i : Nat) : enRun n i j m = (i, j, m) := by
  cases n with
  | zero => rfl
  | succ n => rw [enRun, if_pos h]
theorem en_more {j : En} {m : Mm} (h : (j.dn || !ofOk j.h m.c.s) = false) (n i : Nat) : enRun (n + 1) i j m = enRun n (i + 1) (enSt j m) (enMe j m) := by
  rw [enRun, if_neg (by rw [h]; decide)]
theorem en_look {sl s h no wd : Int} {r : Rw} {m : Mm} (ho : ofOk h m.c.s = true) : enSt ⟨sl, s, h, r, false, false, no, wd⟩ m = ⟨sl, getW m.w (cellIx m.c 4 sl), h, r, fltI (getW m.w (cellIx m.c 4 sl)) h r.l == 0, fltI (getW m.w (cellIx m.c 4 sl)) h r.l != 0, fltI (getW m.w (cellIx m.c 4 sl)) h r.l, wd⟩ ∧ enMe ⟨sl, s, h, r, false, false, no, wd⟩ m = mLd m 4 sl := by
  constructor
  · unfold enSt
    simp only [ho, Bool.false_eq_true, if_false, if_true]
  · unfold enMe
    simp only [ho, Bool.false_eq_true, if_false, if_true]
theorem en_swap {sl s h no wd : Int} {r : Rw} {m : Mm} (ho : ofOk h m.c.s = true) : enSt ⟨sl, s, h, r, true, false, no, wd⟩ m = ⟨sl, s, h, r, false, dnS m 4 sl s, no, if dnS m 4 sl s = true then mvI s (nuI s 27 3) true else wd⟩ ∧ enMe ⟨sl, s, h, r, true, false, no, wd⟩ m = mSw m 4 sl s (mvI s (nuI s 27 3) true) := by
  constructor
  · unfold enSt
    simp only [ho, Bool.false_eq_true, if_false, if_true]
  · unfold enMe
    simp only [ho, Bool.false_eq_true, if_false, if_true]
/-- Told an error: nothing is changed. -/
theorem en_alone_no {sl h : Int} {r : Rw} {m : Mm} {n i : Nat} (ho : ofOk h m.c.s = true) (hF : fltI (getW m.w (cellIx m.c 4 sl)) h r.l ≠ 0) :
    enRun (n + 1) i ⟨sl, 0, h, r, false, false, 0, 0⟩ m = (i + 1, ⟨sl, getW m.w (cellIx m.c 4 sl), h, r, false, true, fltI (getW m.w (cellIx m.c 4 sl)) h r.l, 0⟩, mLd m 4 sl) := by
  rw [en_more (by simp [ho]), (en_look ho).1, (en_look ho).2, beq_eq_false_iff_ne.2 hF, bne_iff_ne.2 hF, en_stop rfl]
/-- Entered: it is busy then. -/
theorem en_alone_yes {sl h : Int} {r : Rw} {m : Mm} {n i : Nat} (ho : ofOk h m.c.s = true) (h4 : 0 ≤ cellIx m.c 4 sl) (hF : fltI (getW m.w (cellIx m.c 4 sl)) h r.l = 0) :
    enRun (n + 2) i ⟨sl, 0, h, r, false, false, 0, 0⟩ m = (i + 2, ⟨sl, getW m.w (cellIx m.c 4 sl), h, r, false, true, 0, mvI (getW m.w (cellIx m.c 4 sl)) (nuI (getW m.w (cellIx m.c 4 sl)) 27 3) true⟩, mSw (mLd m 4 sl) 4 sl (getW m.w (cellIx m.c 4 sl)) (mvI (getW m.w (cellIx m.c 4 sl)) (nuI (getW m.w (cellIx m.c 4 sl)) 27 3) true)) := by
  have hd : dnS (mLd m 4 sl) 4 sl (getW m.w (cellIx m.c 4 sl)) = true := dnS_hit (m := mLd m 4 sl) h4 rfl
  have ho' : ofOk h (mLd m 4 sl).c.s = true := ho
  rw [en_more (by simp [ho]), (en_look ho).1, (en_look ho).2, hF, show ((0 : Int) == 0) = true from rfl, show ((0 : Int) != 0) = false from rfl, en_more (by simp [ho']), (en_swap ho').1, (en_swap ho').2, hd, if_pos rfl, en_stop rfl]
theorem en_none {j : En} {m : Mm} (h : ofOk j.h m.c.s = false) (n i : Nat) : enRun n i j m = (i, j, m) := en_stop (by rw [h]; simp) n i
theorem lv_more {j : Lv} {m : Mm} (h : j.dn = false) (n i : Nat) : lvRun (n + 1) i j m = lvRun n (i + 1) (lSt j m) (lMe j m) := by
  rw [lvRun, if_neg (by rw [h]; decide)]
theorem lv_stop {j : Lv} {m : Mm} (h : j.dn = true) (n i : Nat) : lvRun n i j m = (i, j, m) := by
  cases n with
  | zero => rfl
  | succ n => rw [lvRun, if_pos h]
/-- A leaving alone. -/
theorem lv_alone {sl st : Int} {m : Mm} {n i : Nat} (h4 : 0 ≤ cellIx m.c 4 sl) :
    lvRun (n + 2) i ⟨sl, 0, st, false, false⟩ m = (i + 2, ⟨sl, getW m.w (cellIx m.c 4 sl), st, false, true⟩, mSw (mLd m 4 sl) 4 sl (getW m.w (cellIx m.c 4 sl)) (lvW ⟨sl, getW m.w (cellIx m.c 4 sl), st, true, false⟩)) := by
  have hd : dnS (mLd m 4 sl) 4 sl (getW m.w (cellIx m.c 4 sl)) = true := dnS_hit (m := mLd m 4 sl) h4 rfl
  have e1 : lSt ⟨sl, 0, st, false, false⟩ m = ⟨sl, getW m.w (cellIx m.c 4 sl), st, true, false⟩ := rfl
  have e2 : lMe ⟨sl, 0, st, false, false⟩ m = mLd m 4 sl := rfl
  have e3 : ∀ m', lSt ⟨sl, getW m.w (cellIx m.c 4 sl), st, true, false⟩ m' = ⟨sl, getW m.w (cellIx m.c 4 sl), st, false, dnS m' 4 sl (getW m.w (cellIx m.c 4 sl))⟩ := fun _ => rfl
  have e4 : ∀ m', lMe ⟨sl, getW m.w (cellIx m.c 4 sl), st, true, false⟩ m' = mSw m' 4 sl (getW m.w (cellIx m.c 4 sl)) (lvW ⟨sl, getW m.w (cellIx m.c 4 sl), st, true, false⟩) := fun _ => rfl
  rw [lv_more rfl, e1, e2, lv_more rfl, e3, e4, hd, lv_stop rfl]
theorem sw_w {m : Mm} {kd n o v : Int} (h : getW m.w (cellIx m.c kd n) = o) : (mSw (mLd m kd n) kd n o v).w = setW m.w (cellIx m.c kd n) v := swpW_hit h
/-- A status that is made busy, by its state, or by its bit. -/
theorem mv_busy {w : Int} (hw : Wd w) : mvI w (nuI w 27 3) true = putI w 26 true := by
  obtain ⟨h0, _⟩ := hw
  rw [put26]
  unfold mvI
  have e : nuI w 27 3 = w / 134217728 % 8 := rfl
  rw [e]
  simp only [if_true]
  omega
end Go.Proofs.Ytmliekdbhefpkaa.Ct
