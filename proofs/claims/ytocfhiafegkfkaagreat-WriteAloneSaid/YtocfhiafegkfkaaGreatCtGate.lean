/- The entering's step, and the document's; the leaving's; as contracts. -/
import Derived.Test.YtocfhiafegkfkaaGreatCtEnter
namespace Go.Proofs.YtocfhiafegkfkaaGreat.Ct
open Go Go.Proofs Go.Proofs.YtocfhiafegkfkaaGreat.Ev
open Go.RowKit

abbrev enStepF : FuncId := 100
/-- What is amiss with a status. -/
def fltI (s h : Int) (l : List Int) : Int := if (nuI s 30 32 != tkG h) = true then 2 else if (nuI s 27 3 == 0) = true then 2 else if (nuI s 27 3 == 1) = true then 2 else if bitI s 26 = true then 3 else if inB l (nuI s 27 3) = true then 0 else 4
def enSt (e : En) (m : Mm) : En :=
  if e.dn = true then e else if ofOk e.h m.c.s = true then
    if e.tk = true then ⟨e.sl, e.s, e.h, e.st, false, dnS m 4 e.sl e.s, e.no, if dnS m 4 e.sl e.s = true then mvI e.s (nuI e.s 27 3) true else e.wd⟩
    else ⟨e.sl, getW m.w (cellIx m.c 4 e.sl), e.h, e.st, fltI (getW m.w (cellIx m.c 4 e.sl)) e.h e.st.l == 0, fltI (getW m.w (cellIx m.c 4 e.sl)) e.h e.st.l != 0, fltI (getW m.w (cellIx m.c 4 e.sl)) e.h e.st.l, e.wd⟩
  else e
def enMe (e : En) (m : Mm) : Mm :=
  if e.dn = true then m else if ofOk e.h m.c.s = true then (if e.tk = true then mSw m 4 e.sl e.s (mvI e.s (nuI e.s 27 3) true) else mLd m 4 e.sl) else m
def enGood (e : En) (m : Mm) : Prop := m.ok ∧ WfW m.w ∧ Wd e.s ∧ Wd e.h ∧ e.st.l.length ≤ 1000
open Dec in
section
variable (sl s h no wd : Int) (tk dn : Bool) (m : Mm) (l : List Int) (ow : Bool)
theorem e0_0 : callR Eg3 12 enStepF (objA []) (enHp ⟨sl, s, h, .nil, tk, dn, no, wd⟩ m) [t, Dec.l] [0, 1, 2] = some (.tuple ⟨[]⟩, enHp ⟨sl, s, h, .nil, tk, dn, no, wd⟩ m, [dn = true]) := by kernel_rfl
theorem e0_1 : callR Eg3 12 enStepF (objA []) (enHp ⟨sl, s, h, .nil, tk, dn, no, wd⟩ m) [f, t] [0, 1, 2] = some (.tuple ⟨[]⟩, enHp ⟨sl, s, h, .nil, tk, dn, no, wd⟩ m, [dn = false, Wd h, (!ofOk h m.c.s) = true]) := by kernel_rfl
theorem e0_2 : callR Eg3 12 enStepF (objA []) (enHp ⟨sl, s, h, .nil, tk, dn, no, wd⟩ m) [f, f, f, t] [0, 1, 2] = some (.tuple ⟨[]⟩, enHp ⟨sl, s, h, .nil, false, true, no, (mvI s (nuI s 27 3) true)⟩ (mSw m 4 sl s (mvI s (nuI s 27 3) true)), [dn = false, Wd h, (!ofOk h m.c.s) = false, (!tk) = false, Wd s, Wd s, m.ok, dnS m 4 sl s = true]) := by kernel_rfl
theorem e0_3 : callR Eg3 12 enStepF (objA []) (enHp ⟨sl, s, h, .nil, tk, dn, no, wd⟩ m) [f, f, f, f] [0, 1, 2] = some (.tuple ⟨[]⟩, enHp ⟨sl, s, h, .nil, false, dn, no, wd⟩ (mSw m 4 sl s (mvI s (nuI s 27 3) true)), [dn = false, Wd h, (!ofOk h m.c.s) = false, (!tk) = false, Wd s, Wd s, m.ok, dnS m 4 sl s = false]) := by kernel_rfl
theorem e0_4 : callR Eg3 12 enStepF (objA []) (enHp ⟨sl, s, h, .nil, tk, dn, no, wd⟩ m) [f, f, t, t, t] [0, 1, 2] = some (.tuple ⟨[]⟩, enHp ⟨sl, (getW m.w (cellIx m.c 4 sl)), h, .nil, false, true, 2, wd⟩ (mLd m 4 sl), [dn = false, Wd h, (!ofOk h m.c.s) = false, (!tk) = true, m.ok, Wd (getW m.w (cellIx m.c 4 sl)), Wd h, (nuI (getW m.w (cellIx m.c 4 sl)) 30 32 != tkG h) = true, (nuI (getW m.w (cellIx m.c 4 sl)) 30 32 != tkG h) = true]) := by kernel_rfl
theorem e0_5 : callR Eg3 12 enStepF (objA []) (enHp ⟨sl, s, h, .nil, tk, dn, no, wd⟩ m) [f, f, t, f, t, t] [0, 1, 2] = some (.tuple ⟨[]⟩, enHp ⟨sl, (getW m.w (cellIx m.c 4 sl)), h, .nil, false, true, 2, wd⟩ (mLd m 4 sl), [dn = false, Wd h, (!ofOk h m.c.s) = false, (!tk) = true, m.ok, Wd (getW m.w (cellIx m.c 4 sl)), Wd h, (nuI (getW m.w (cellIx m.c 4 sl)) 30 32 != tkG h) = false, (nuI (getW m.w (cellIx m.c 4 sl)) 27 3 == 0) = true, (nuI (getW m.w (cellIx m.c 4 sl)) 27 3 == 0) = true]) := by kernel_rfl
theorem e0_6 : callR Eg3 12 enStepF (objA []) (enHp ⟨sl, s, h, .nil, tk, dn, no, wd⟩ m) [f, f, t, f, f, t] [0, 1, 2] = some (.tuple ⟨[]⟩, enHp ⟨sl, (getW m.w (cellIx m.c 4 sl)), h, .nil, false, true, 2, wd⟩ (mLd m 4 sl), [dn = false, Wd h, (!ofOk h m.c.s) = false, (!tk) = true, m.ok, Wd (getW m.w (cellIx m.c 4 sl)), Wd h, (nuI (getW m.w (cellIx m.c 4 sl)) 30 32 != tkG h) = false, (nuI (getW m.w (cellIx m.c 4 sl)) 27 3 == 0) = false, (nuI (getW m.w (cellIx m.c 4 sl)) 27 3 == 1) = true]) := by kernel_rfl
theorem e0_7 : callR Eg3 12 enStepF (objA []) (enHp ⟨sl, s, h, .nil, tk, dn, no, wd⟩ m) [f, f, t, f, f, f, t] [0, 1, 2] = some (.tuple ⟨[]⟩, enHp ⟨sl, (getW m.w (cellIx m.c 4 sl)), h, .nil, false, true, 3, wd⟩ (mLd m 4 sl), [dn = false, Wd h, (!ofOk h m.c.s) = false, (!tk) = true, m.ok, Wd (getW m.w (cellIx m.c 4 sl)), Wd h, (nuI (getW m.w (cellIx m.c 4 sl)) 30 32 != tkG h) = false, (nuI (getW m.w (cellIx m.c 4 sl)) 27 3 == 0) = false, (nuI (getW m.w (cellIx m.c 4 sl)) 27 3 == 1) = false, bitI (getW m.w (cellIx m.c 4 sl)) 26 = true]) := by kernel_rfl
theorem e0_8 : callR Eg3 12 enStepF (objA []) (enHp ⟨sl, s, h, .nil, tk, dn, no, wd⟩ m) [f, f, t, f, f, f, f, t] [0, 1, 2] = some (.tuple ⟨[]⟩, enHp ⟨sl, (getW m.w (cellIx m.c 4 sl)), h, .nil, false, true, 4, wd⟩ (mLd m 4 sl), [dn = false, Wd h, (!ofOk h m.c.s) = false, (!tk) = true, m.ok, Wd (getW m.w (cellIx m.c 4 sl)), Wd h, (nuI (getW m.w (cellIx m.c 4 sl)) 30 32 != tkG h) = false, (nuI (getW m.w (cellIx m.c 4 sl)) 27 3 == 0) = false, (nuI (getW m.w (cellIx m.c 4 sl)) 27 3 == 1) = false, bitI (getW m.w (cellIx m.c 4 sl)) 26 = false, (!inB [] (nuI (getW m.w (cellIx m.c 4 sl)) 27 3)) = true]) := by kernel_rfl
theorem e0_9 : callR Eg3 12 enStepF (objA []) (enHp ⟨sl, s, h, .nil, tk, dn, no, wd⟩ m) [f, f, t, f, f, f, f, f] [0, 1, 2] = some (.tuple ⟨[]⟩, enHp ⟨sl, (getW m.w (cellIx m.c 4 sl)), h, .nil, true, false, 0, wd⟩ (mLd m 4 sl), [dn = false, Wd h, (!ofOk h m.c.s) = false, (!tk) = true, m.ok, Wd (getW m.w (cellIx m.c 4 sl)), Wd h, (nuI (getW m.w (cellIx m.c 4 sl)) 30 32 != tkG h) = false, (nuI (getW m.w (cellIx m.c 4 sl)) 27 3 == 0) = false, (nuI (getW m.w (cellIx m.c 4 sl)) 27 3 == 1) = false, bitI (getW m.w (cellIx m.c 4 sl)) 26 = false, (!inB [] (nuI (getW m.w (cellIx m.c 4 sl)) 27 3)) = false]) := by kernel_rfl
theorem e1_0 : callR Eg3 12 enStepF (objA []) (enHp ⟨sl, s, h, (.row ow l), tk, dn, no, wd⟩ m) [t, Dec.l] [0, 1, 2, 3, 4] = some (.tuple ⟨[]⟩, enHp ⟨sl, s, h, (.row ow l), tk, dn, no, wd⟩ m, [dn = true]) := by cases ow <;> kernel_rfl
theorem e1_1 : callR Eg3 12 enStepF (objA []) (enHp ⟨sl, s, h, (.row ow l), tk, dn, no, wd⟩ m) [f, t] [0, 1, 2, 3, 4] = some (.tuple ⟨[]⟩, enHp ⟨sl, s, h, (.row ow l), tk, dn, no, wd⟩ m, [dn = false, Wd h, (!ofOk h m.c.s) = true]) := by cases ow <;> kernel_rfl
theorem e1_2 : callR Eg3 12 enStepF (objA []) (enHp ⟨sl, s, h, (.row ow l), tk, dn, no, wd⟩ m) [f, f, f, t] [0, 1, 2, 3, 4] = some (.tuple ⟨[]⟩, enHp ⟨sl, s, h, (.row ow l), false, true, no, (mvI s (nuI s 27 3) true)⟩ (mSw m 4 sl s (mvI s (nuI s 27 3) true)), [dn = false, Wd h, (!ofOk h m.c.s) = false, (!tk) = false, Wd s, Wd s, m.ok, dnS m 4 sl s = true]) := by cases ow <;> kernel_rfl
theorem e1_3 : callR Eg3 12 enStepF (objA []) (enHp ⟨sl, s, h, (.row ow l), tk, dn, no, wd⟩ m) [f, f, f, f] [0, 1, 2, 3, 4] = some (.tuple ⟨[]⟩, enHp ⟨sl, s, h, (.row ow l), false, dn, no, wd⟩ (mSw m 4 sl s (mvI s (nuI s 27 3) true)), [dn = false, Wd h, (!ofOk h m.c.s) = false, (!tk) = false, Wd s, Wd s, m.ok, dnS m 4 sl s = false]) := by cases ow <;> kernel_rfl
theorem e1_4 : callR Eg3 12 enStepF (objA []) (enHp ⟨sl, s, h, (.row ow l), tk, dn, no, wd⟩ m) [f, f, t, t, t] [0, 1, 2, 3, 4] = some (.tuple ⟨[]⟩, enHp ⟨sl, (getW m.w (cellIx m.c 4 sl)), h, (.row ow l), false, true, 2, wd⟩ (mLd m 4 sl), [dn = false, Wd h, (!ofOk h m.c.s) = false, (!tk) = true, m.ok, Wd (getW m.w (cellIx m.c 4 sl)), Wd h, (nuI (getW m.w (cellIx m.c 4 sl)) 30 32 != tkG h) = true, (nuI (getW m.w (cellIx m.c 4 sl)) 30 32 != tkG h) = true]) := by cases ow <;> kernel_rfl
theorem e1_5 : callR Eg3 12 enStepF (objA []) (enHp ⟨sl, s, h, (.row ow l), tk, dn, no, wd⟩ m) [f, f, t, f, t, t] [0, 1, 2, 3, 4] = some (.tuple ⟨[]⟩, enHp ⟨sl, (getW m.w (cellIx m.c 4 sl)), h, (.row ow l), false, true, 2, wd⟩ (mLd m 4 sl), [dn = false, Wd h, (!ofOk h m.c.s) = false, (!tk) = true, m.ok, Wd (getW m.w (cellIx m.c 4 sl)), Wd h, (nuI (getW m.w (cellIx m.c 4 sl)) 30 32 != tkG h) = false, (nuI (getW m.w (cellIx m.c 4 sl)) 27 3 == 0) = true, (nuI (getW m.w (cellIx m.c 4 sl)) 27 3 == 0) = true]) := by cases ow <;> kernel_rfl
theorem e1_6 : callR Eg3 12 enStepF (objA []) (enHp ⟨sl, s, h, (.row ow l), tk, dn, no, wd⟩ m) [f, f, t, f, f, t] [0, 1, 2, 3, 4] = some (.tuple ⟨[]⟩, enHp ⟨sl, (getW m.w (cellIx m.c 4 sl)), h, (.row ow l), false, true, 2, wd⟩ (mLd m 4 sl), [dn = false, Wd h, (!ofOk h m.c.s) = false, (!tk) = true, m.ok, Wd (getW m.w (cellIx m.c 4 sl)), Wd h, (nuI (getW m.w (cellIx m.c 4 sl)) 30 32 != tkG h) = false, (nuI (getW m.w (cellIx m.c 4 sl)) 27 3 == 0) = false, (nuI (getW m.w (cellIx m.c 4 sl)) 27 3 == 1) = true]) := by cases ow <;> kernel_rfl
theorem e1_7 : callR Eg3 12 enStepF (objA []) (enHp ⟨sl, s, h, (.row ow l), tk, dn, no, wd⟩ m) [f, f, t, f, f, f, t] [0, 1, 2, 3, 4] = some (.tuple ⟨[]⟩, enHp ⟨sl, (getW m.w (cellIx m.c 4 sl)), h, (.row ow l), false, true, 3, wd⟩ (mLd m 4 sl), [dn = false, Wd h, (!ofOk h m.c.s) = false, (!tk) = true, m.ok, Wd (getW m.w (cellIx m.c 4 sl)), Wd h, (nuI (getW m.w (cellIx m.c 4 sl)) 30 32 != tkG h) = false, (nuI (getW m.w (cellIx m.c 4 sl)) 27 3 == 0) = false, (nuI (getW m.w (cellIx m.c 4 sl)) 27 3 == 1) = false, bitI (getW m.w (cellIx m.c 4 sl)) 26 = true]) := by cases ow <;> kernel_rfl
theorem e1_8 : callR Eg3 12 enStepF (objA []) (enHp ⟨sl, s, h, (.row ow l), tk, dn, no, wd⟩ m) [f, f, t, f, f, f, f, t] [0, 1, 2, 3, 4] = some (.tuple ⟨[]⟩, enHp ⟨sl, (getW m.w (cellIx m.c 4 sl)), h, (.row ow l), false, true, 4, wd⟩ (mLd m 4 sl), [dn = false, Wd h, (!ofOk h m.c.s) = false, (!tk) = true, m.ok, Wd (getW m.w (cellIx m.c 4 sl)), Wd h, (nuI (getW m.w (cellIx m.c 4 sl)) 30 32 != tkG h) = false, (nuI (getW m.w (cellIx m.c 4 sl)) 27 3 == 0) = false, (nuI (getW m.w (cellIx m.c 4 sl)) 27 3 == 1) = false, bitI (getW m.w (cellIx m.c 4 sl)) 26 = false, 0 = 0, l.length ≤ l.length, l.length ≤ 1000, (!inB (l.take l.length) (nuI (getW m.w (cellIx m.c 4 sl)) 27 3)) = true]) := by cases ow <;> kernel_rfl
theorem e1_9 : callR Eg3 12 enStepF (objA []) (enHp ⟨sl, s, h, (.row ow l), tk, dn, no, wd⟩ m) [f, f, t, f, f, f, f, f] [0, 1, 2, 3, 4] = some (.tuple ⟨[]⟩, enHp ⟨sl, (getW m.w (cellIx m.c 4 sl)), h, (.row ow l), true, false, 0, wd⟩ (mLd m 4 sl), [dn = false, Wd h, (!ofOk h m.c.s) = false, (!tk) = true, m.ok, Wd (getW m.w (cellIx m.c 4 sl)), Wd h, (nuI (getW m.w (cellIx m.c 4 sl)) 30 32 != tkG h) = false, (nuI (getW m.w (cellIx m.c 4 sl)) 27 3 == 0) = false, (nuI (getW m.w (cellIx m.c 4 sl)) 27 3 == 1) = false, bitI (getW m.w (cellIx m.c 4 sl)) 26 = false, 0 = 0, l.length ≤ l.length, l.length ≤ 1000, (!inB (l.take l.length) (nuI (getW m.w (cellIx m.c 4 sl)) 27 3)) = false]) := by cases ow <;> kernel_rfl
end
theorem enStep_C (e : En) (m : Mm) (hg : enGood e m) : CallC Tryz.prog enStepF (objA []) (enHp e m) (.tuple ⟨[]⟩) (enHp (enSt e m) (enMe e m)) := by
  obtain ⟨sl, s, h, r, tk, dn, no, wd⟩ := e
  obtain ⟨ho, hw, hs, hh, hl⟩ := hg
  simp only at hs hh hl
  have hv : Wd (getW m.w (cellIx m.c 4 sl)) := hw.getW _
  cases r with
  | nil =>
    by_cases h1 : dn = true
    · skip
      have e1 : enSt ⟨sl, s, h, .nil, tk, dn, no, wd⟩ m = ⟨sl, s, h, .nil, tk, dn, no, wd⟩ := by unfold enSt fltI Rw.l; simp [*]
      have e2 : enMe ⟨sl, s, h, .nil, tk, dn, no, wd⟩ m = m := by unfold enMe; simp [*]
      rw [e1, e2]
      exact CallC.of_call Eg3ok (e0_0 sl s h no wd tk dn m) (pcs_of ⟨h1, trivial⟩) rfl z3
    · have h1 := eq_false_of_ne_true h1
      by_cases h2 : (!ofOk h m.c.s) = true
      · have : ofOk h m.c.s = false := by simpa using h2
        have e1 : enSt ⟨sl, s, h, .nil, tk, dn, no, wd⟩ m = ⟨sl, s, h, .nil, tk, dn, no, wd⟩ := by unfold enSt fltI Rw.l; simp [*]
        have e2 : enMe ⟨sl, s, h, .nil, tk, dn, no, wd⟩ m = m := by unfold enMe; simp [*]
        rw [e1, e2]
        exact CallC.of_call Eg3ok (e0_1 sl s h no wd tk dn m) (pcs_of ⟨h1, hh, h2, trivial⟩) rfl z3
      · have h2 := eq_false_of_ne_true h2
        have : ofOk h m.c.s = true := by simpa using h2
        by_cases h3 : (!tk) = true
        · have : tk = false := by simpa using h3
          by_cases h4 : (nuI (getW m.w (cellIx m.c 4 sl)) 30 32 != tkG h) = true
          · skip
            have e1 : enSt ⟨sl, s, h, .nil, tk, dn, no, wd⟩ m = ⟨sl, (getW m.w (cellIx m.c 4 sl)), h, .nil, false, true, 2, wd⟩ := by unfold enSt fltI Rw.l; simp [*]
            have e2 : enMe ⟨sl, s, h, .nil, tk, dn, no, wd⟩ m = (mLd m 4 sl) := by unfold enMe; simp [*]
            rw [e1, e2]
            exact CallC.of_call Eg3ok (e0_4 sl s h no wd tk dn m) (pcs_of ⟨h1, hh, h2, h3, ho, hv, hh, h4, h4, trivial⟩) rfl z3
          · have h4 := eq_false_of_ne_true h4
            by_cases h5 : (nuI (getW m.w (cellIx m.c 4 sl)) 27 3 == 0) = true
            · skip
              have e1 : enSt ⟨sl, s, h, .nil, tk, dn, no, wd⟩ m = ⟨sl, (getW m.w (cellIx m.c 4 sl)), h, .nil, false, true, 2, wd⟩ := by unfold enSt fltI Rw.l; simp [*]
              have e2 : enMe ⟨sl, s, h, .nil, tk, dn, no, wd⟩ m = (mLd m 4 sl) := by unfold enMe; simp [*]
              rw [e1, e2]
              exact CallC.of_call Eg3ok (e0_5 sl s h no wd tk dn m) (pcs_of ⟨h1, hh, h2, h3, ho, hv, hh, h4, h5, h5, trivial⟩) rfl z3
            · have h5 := eq_false_of_ne_true h5
              by_cases h6 : (nuI (getW m.w (cellIx m.c 4 sl)) 27 3 == 1) = true
              · skip
                have e1 : enSt ⟨sl, s, h, .nil, tk, dn, no, wd⟩ m = ⟨sl, (getW m.w (cellIx m.c 4 sl)), h, .nil, false, true, 2, wd⟩ := by unfold enSt fltI Rw.l; simp [*]
                have e2 : enMe ⟨sl, s, h, .nil, tk, dn, no, wd⟩ m = (mLd m 4 sl) := by unfold enMe; simp [*]
                rw [e1, e2]
                exact CallC.of_call Eg3ok (e0_6 sl s h no wd tk dn m) (pcs_of ⟨h1, hh, h2, h3, ho, hv, hh, h4, h5, h6, trivial⟩) rfl z3
              · have h6 := eq_false_of_ne_true h6
                by_cases h7 : bitI (getW m.w (cellIx m.c 4 sl)) 26 = true
                · skip
                  have e1 : enSt ⟨sl, s, h, .nil, tk, dn, no, wd⟩ m = ⟨sl, (getW m.w (cellIx m.c 4 sl)), h, .nil, false, true, 3, wd⟩ := by unfold enSt fltI Rw.l; simp [*]
                  have e2 : enMe ⟨sl, s, h, .nil, tk, dn, no, wd⟩ m = (mLd m 4 sl) := by unfold enMe; simp [*]
                  rw [e1, e2]
                  exact CallC.of_call Eg3ok (e0_7 sl s h no wd tk dn m) (pcs_of ⟨h1, hh, h2, h3, ho, hv, hh, h4, h5, h6, h7, trivial⟩) rfl z3
                · have h7 := eq_false_of_ne_true h7
                  by_cases h8 : (!inB [] (nuI (getW m.w (cellIx m.c 4 sl)) 27 3)) = true
                  · have : inB [] (nuI (getW m.w (cellIx m.c 4 sl)) 27 3) = false := by simpa using h8
                    have e1 : enSt ⟨sl, s, h, .nil, tk, dn, no, wd⟩ m = ⟨sl, (getW m.w (cellIx m.c 4 sl)), h, .nil, false, true, 4, wd⟩ := by unfold enSt fltI Rw.l; simp [*]
                    have e2 : enMe ⟨sl, s, h, .nil, tk, dn, no, wd⟩ m = (mLd m 4 sl) := by unfold enMe; simp [*]
                    rw [e1, e2]
                    exact CallC.of_call Eg3ok (e0_8 sl s h no wd tk dn m) (pcs_of ⟨h1, hh, h2, h3, ho, hv, hh, h4, h5, h6, h7, h8, trivial⟩) rfl z3
                  · have h8 := eq_false_of_ne_true h8
                    have : inB [] (nuI (getW m.w (cellIx m.c 4 sl)) 27 3) = true := by simpa using h8
                    have e1 : enSt ⟨sl, s, h, .nil, tk, dn, no, wd⟩ m = ⟨sl, (getW m.w (cellIx m.c 4 sl)), h, .nil, true, false, 0, wd⟩ := by unfold enSt fltI Rw.l; simp [*]
                    have e2 : enMe ⟨sl, s, h, .nil, tk, dn, no, wd⟩ m = (mLd m 4 sl) := by unfold enMe; simp [*]
                    rw [e1, e2]
                    exact CallC.of_call Eg3ok (e0_9 sl s h no wd tk dn m) (pcs_of ⟨h1, hh, h2, h3, ho, hv, hh, h4, h5, h6, h7, h8, trivial⟩) rfl z3
        · have h3 := eq_false_of_ne_true h3
          have : tk = true := by simpa using h3
          by_cases h9 : dnS m 4 sl s = true
          · skip
            have e1 : enSt ⟨sl, s, h, .nil, tk, dn, no, wd⟩ m = ⟨sl, s, h, .nil, false, true, no, (mvI s (nuI s 27 3) true)⟩ := by unfold enSt fltI Rw.l; simp [*]
            have e2 : enMe ⟨sl, s, h, .nil, tk, dn, no, wd⟩ m = (mSw m 4 sl s (mvI s (nuI s 27 3) true)) := by unfold enMe; simp [*]
            rw [e1, e2]
            exact CallC.of_call Eg3ok (e0_2 sl s h no wd tk dn m) (pcs_of ⟨h1, hh, h2, h3, hs, hs, ho, h9, trivial⟩) rfl z3
          · have h9 := eq_false_of_ne_true h9
            have e1 : enSt ⟨sl, s, h, .nil, tk, dn, no, wd⟩ m = ⟨sl, s, h, .nil, false, dn, no, wd⟩ := by unfold enSt fltI Rw.l; simp [*]
            have e2 : enMe ⟨sl, s, h, .nil, tk, dn, no, wd⟩ m = (mSw m 4 sl s (mvI s (nuI s 27 3) true)) := by unfold enMe; simp [*]
            rw [e1, e2]
            exact CallC.of_call Eg3ok (e0_3 sl s h no wd tk dn m) (pcs_of ⟨h1, hh, h2, h3, hs, hs, ho, h9, trivial⟩) rfl z3
  | row ow l =>
    have hl : l.length ≤ 1000 := hl
    have etl : l.take l.length = l := List.take_length
    by_cases h1 : dn = true
    · skip
      have e1 : enSt ⟨sl, s, h, (.row ow l), tk, dn, no, wd⟩ m = ⟨sl, s, h, (.row ow l), tk, dn, no, wd⟩ := by unfold enSt fltI Rw.l; simp [*]
      have e2 : enMe ⟨sl, s, h, (.row ow l), tk, dn, no, wd⟩ m = m := by unfold enMe; simp [*]
      rw [e1, e2]
      exact CallC.of_call Eg3ok (e1_0 sl s h no wd tk dn m l ow) (pcs_of ⟨h1, trivial⟩) rfl z5
    · have h1 := eq_false_of_ne_true h1
      by_cases h2 : (!ofOk h m.c.s) = true
      · have : ofOk h m.c.s = false := by simpa using h2
        have e1 : enSt ⟨sl, s, h, (.row ow l), tk, dn, no, wd⟩ m = ⟨sl, s, h, (.row ow l), tk, dn, no, wd⟩ := by unfold enSt fltI Rw.l; simp [*]
        have e2 : enMe ⟨sl, s, h, (.row ow l), tk, dn, no, wd⟩ m = m := by unfold enMe; simp [*]
        rw [e1, e2]
        exact CallC.of_call Eg3ok (e1_1 sl s h no wd tk dn m l ow) (pcs_of ⟨h1, hh, h2, trivial⟩) rfl z5
      · have h2 := eq_false_of_ne_true h2
        have : ofOk h m.c.s = true := by simpa using h2
        by_cases h3 : (!tk) = true
        · have : tk = false := by simpa using h3
          by_cases h4 : (nuI (getW m.w (cellIx m.c 4 sl)) 30 32 != tkG h) = true
          · skip
            have e1 : enSt ⟨sl, s, h, (.row ow l), tk, dn, no, wd⟩ m = ⟨sl, (getW m.w (cellIx m.c 4 sl)), h, (.row ow l), false, true, 2, wd⟩ := by unfold enSt fltI Rw.l; simp [*]
            have e2 : enMe ⟨sl, s, h, (.row ow l), tk, dn, no, wd⟩ m = (mLd m 4 sl) := by unfold enMe; simp [*]
            rw [e1, e2]
            exact CallC.of_call Eg3ok (e1_4 sl s h no wd tk dn m l ow) (pcs_of ⟨h1, hh, h2, h3, ho, hv, hh, h4, h4, trivial⟩) rfl z5
          · have h4 := eq_false_of_ne_true h4
            by_cases h5 : (nuI (getW m.w (cellIx m.c 4 sl)) 27 3 == 0) = true
            · skip
              have e1 : enSt ⟨sl, s, h, (.row ow l), tk, dn, no, wd⟩ m = ⟨sl, (getW m.w (cellIx m.c 4 sl)), h, (.row ow l), false, true, 2, wd⟩ := by unfold enSt fltI Rw.l; simp [*]
              have e2 : enMe ⟨sl, s, h, (.row ow l), tk, dn, no, wd⟩ m = (mLd m 4 sl) := by unfold enMe; simp [*]
              rw [e1, e2]
              exact CallC.of_call Eg3ok (e1_5 sl s h no wd tk dn m l ow) (pcs_of ⟨h1, hh, h2, h3, ho, hv, hh, h4, h5, h5, trivial⟩) rfl z5
            · have h5 := eq_false_of_ne_true h5
              by_cases h6 : (nuI (getW m.w (cellIx m.c 4 sl)) 27 3 == 1) = true
              · skip
                have e1 : enSt ⟨sl, s, h, (.row ow l), tk, dn, no, wd⟩ m = ⟨sl, (getW m.w (cellIx m.c 4 sl)), h, (.row ow l), false, true, 2, wd⟩ := by unfold enSt fltI Rw.l; simp [*]
                have e2 : enMe ⟨sl, s, h, (.row ow l), tk, dn, no, wd⟩ m = (mLd m 4 sl) := by unfold enMe; simp [*]
                rw [e1, e2]
                exact CallC.of_call Eg3ok (e1_6 sl s h no wd tk dn m l ow) (pcs_of ⟨h1, hh, h2, h3, ho, hv, hh, h4, h5, h6, trivial⟩) rfl z5
              · have h6 := eq_false_of_ne_true h6
                by_cases h7 : bitI (getW m.w (cellIx m.c 4 sl)) 26 = true
                · skip
                  have e1 : enSt ⟨sl, s, h, (.row ow l), tk, dn, no, wd⟩ m = ⟨sl, (getW m.w (cellIx m.c 4 sl)), h, (.row ow l), false, true, 3, wd⟩ := by unfold enSt fltI Rw.l; simp [*]
                  have e2 : enMe ⟨sl, s, h, (.row ow l), tk, dn, no, wd⟩ m = (mLd m 4 sl) := by unfold enMe; simp [*]
                  rw [e1, e2]
                  exact CallC.of_call Eg3ok (e1_7 sl s h no wd tk dn m l ow) (pcs_of ⟨h1, hh, h2, h3, ho, hv, hh, h4, h5, h6, h7, trivial⟩) rfl z5
                · have h7 := eq_false_of_ne_true h7
                  by_cases h8 : (!inB (l.take l.length) (nuI (getW m.w (cellIx m.c 4 sl)) 27 3)) = true
                  · have : inB (l.take l.length) (nuI (getW m.w (cellIx m.c 4 sl)) 27 3) = false := by simpa using h8
                    rw [etl] at this
                    have e1 : enSt ⟨sl, s, h, (.row ow l), tk, dn, no, wd⟩ m = ⟨sl, (getW m.w (cellIx m.c 4 sl)), h, (.row ow l), false, true, 4, wd⟩ := by unfold enSt fltI Rw.l; simp [*]
                    have e2 : enMe ⟨sl, s, h, (.row ow l), tk, dn, no, wd⟩ m = (mLd m 4 sl) := by unfold enMe; simp [*]
                    rw [e1, e2]
                    exact CallC.of_call Eg3ok (e1_8 sl s h no wd tk dn m l ow) (pcs_of ⟨h1, hh, h2, h3, ho, hv, hh, h4, h5, h6, h7, rfl, Nat.le_refl _, hl, h8, trivial⟩) rfl z5
                  · have h8 := eq_false_of_ne_true h8
                    have : inB (l.take l.length) (nuI (getW m.w (cellIx m.c 4 sl)) 27 3) = true := by simpa using h8
                    rw [etl] at this
                    have e1 : enSt ⟨sl, s, h, (.row ow l), tk, dn, no, wd⟩ m = ⟨sl, (getW m.w (cellIx m.c 4 sl)), h, (.row ow l), true, false, 0, wd⟩ := by unfold enSt fltI Rw.l; simp [*]
                    have e2 : enMe ⟨sl, s, h, (.row ow l), tk, dn, no, wd⟩ m = (mLd m 4 sl) := by unfold enMe; simp [*]
                    rw [e1, e2]
                    exact CallC.of_call Eg3ok (e1_9 sl s h no wd tk dn m l ow) (pcs_of ⟨h1, hh, h2, h3, ho, hv, hh, h4, h5, h6, h7, rfl, Nat.le_refl _, hl, h8, trivial⟩) rfl z5
        · have h3 := eq_false_of_ne_true h3
          have : tk = true := by simpa using h3
          by_cases h9 : dnS m 4 sl s = true
          · skip
            have e1 : enSt ⟨sl, s, h, (.row ow l), tk, dn, no, wd⟩ m = ⟨sl, s, h, (.row ow l), false, true, no, (mvI s (nuI s 27 3) true)⟩ := by unfold enSt fltI Rw.l; simp [*]
            have e2 : enMe ⟨sl, s, h, (.row ow l), tk, dn, no, wd⟩ m = (mSw m 4 sl s (mvI s (nuI s 27 3) true)) := by unfold enMe; simp [*]
            rw [e1, e2]
            exact CallC.of_call Eg3ok (e1_2 sl s h no wd tk dn m l ow) (pcs_of ⟨h1, hh, h2, h3, hs, hs, ho, h9, trivial⟩) rfl z5
          · have h9 := eq_false_of_ne_true h9
            have e1 : enSt ⟨sl, s, h, (.row ow l), tk, dn, no, wd⟩ m = ⟨sl, s, h, (.row ow l), false, dn, no, wd⟩ := by unfold enSt fltI Rw.l; simp [*]
            have e2 : enMe ⟨sl, s, h, (.row ow l), tk, dn, no, wd⟩ m = (mSw m 4 sl s (mvI s (nuI s 27 3) true)) := by unfold enMe; simp [*]
            rw [e1, e2]
            exact CallC.of_call Eg3ok (e1_3 sl s h no wd tk dn m l ow) (pcs_of ⟨h1, hh, h2, h3, hs, hs, ho, h9, trivial⟩) rfl z5
end Go.Proofs.YtocfhiafegkfkaaGreat.Ct
