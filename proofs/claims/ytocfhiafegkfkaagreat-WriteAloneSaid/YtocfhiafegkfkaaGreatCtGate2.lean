/- An entering's end, a leaving, and their runs. -/
import Derived.Test.YtocfhiafegkfkaaGreatCtGate
namespace Go.Proofs.YtocfhiafegkfkaaGreat.Ct
open Go Go.Proofs Go.Proofs.YtocfhiafegkfkaaGreat.Ev
open Go.RowKit

theorem enSt_st (e : En) (m : Mm) : (enSt e m).st = e.st := by
  unfold enSt
  split
  · rfl
  · split
    · split <;> rfl
    · rfl
theorem enMe_ok {e : En} {m : Mm} (h : enGood e m) : (enMe e m).ok ∧ (enMe e m).c = m.c ∧ WfW (enMe e m).w := by
  obtain ⟨ho, hw, hs, _, _⟩ := h
  unfold enMe
  split
  · exact ⟨ho, rfl, hw⟩
  · split
    · split
      · exact ⟨acc_ok ho (swpW_len _ _ _ _), rfl, hw.swpW _ _ (mvI_rng hs _ _)⟩
      · exact ⟨acc_ok ho rfl, rfl, hw⟩
    · exact ⟨ho, rfl, hw⟩
theorem enSt_s {e : En} {m : Mm} (h : enGood e m) : Wd (enSt e m).s ∧ (enSt e m).h = e.h := by
  obtain ⟨ho, hw, hs, _, _⟩ := h
  unfold enSt
  split
  · exact ⟨hs, rfl⟩
  · split
    · split
      · exact ⟨hs, rfl⟩
      · exact ⟨hw.getW _, rfl⟩
    · exact ⟨hs, rfl⟩
theorem enStep_good {e : En} {m : Mm} (h : enGood e m) : enGood (enSt e m) (enMe e m) :=
  ⟨(enMe_ok h).1, (enMe_ok h).2.2, (enSt_s h).1, by rw [(enSt_s h).2]; exact h.2.2.2.1, by rw [enSt_st]; exact h.2.2.2.2⟩
abbrev gEs : List Value → Hp → Option (Value × Hp × List Prop) := gEn (fun _ _ _ => .tuple ⟨[]⟩) (fun e m _ => enSt e m) (fun e m _ => enMe e m) (fun e m rest => rest = [] ∧ enGood e m)
theorem gEs_ok : ∀ args hp v hp' pc, gEs args hp = some (v, hp', pc) → ∀ ds, CallOk Tryz.prog enStepF args hp ⟨v, hp', ds, pc⟩ :=
  gEn_ok (enters (fn := Tryz.f100) (by kernel_rfl) (by kernel_rfl) rfl) (fun _ _ _ => rfl) (fun e m _ => enSt_st e m) fun e m rest h => by
    obtain ⟨rfl, h⟩ := h
    exact enStep_C e m h
noncomputable def Eg4 : Env := Eg3.add enStepF gEs
theorem Eg4ok : EnvOk Eg4 := Eg3ok.add gEs_ok
abbrev enDoneF : FuncId := 101
abbrev enErrF : FuncId := 102
open Dec in
section
variable (sl s h no wd : Int) (tk dn : Bool) (m : Mm) (l : List Int) (ow : Bool)
theorem ed0_t : callR Eg4 12 enDoneF (objA []) (enHp ⟨sl, s, h, .nil, tk, dn, no, wd⟩ m) [t] [0, 1, 2] = some (.bool true, enHp ⟨sl, s, h, .nil, tk, dn, no, wd⟩ m, [dn = true]) := by kernel_rfl
theorem ed0_f : callR Eg4 12 enDoneF (objA []) (enHp ⟨sl, s, h, .nil, tk, dn, no, wd⟩ m) [f] [0, 1, 2] = some (.bool (!ofOk h m.c.s), enHp ⟨sl, s, h, .nil, tk, dn, no, wd⟩ m, [dn = false, Wd h]) := by kernel_rfl
theorem ed1_t : callR Eg4 12 enDoneF (objA []) (enHp ⟨sl, s, h, .row ow l, tk, dn, no, wd⟩ m) [t] [0, 1, 2, 3, 4] = some (.bool true, enHp ⟨sl, s, h, .row ow l, tk, dn, no, wd⟩ m, [dn = true]) := by cases ow <;> kernel_rfl
theorem ed1_f : callR Eg4 12 enDoneF (objA []) (enHp ⟨sl, s, h, .row ow l, tk, dn, no, wd⟩ m) [f] [0, 1, 2, 3, 4] = some (.bool (!ofOk h m.c.s), enHp ⟨sl, s, h, .row ow l, tk, dn, no, wd⟩ m, [dn = false, Wd h]) := by cases ow <;> kernel_rfl
theorem ee0_t : callR Eg4 12 enErrF (objA []) (enHp ⟨sl, s, h, .nil, tk, dn, no, wd⟩ m) [t] [0, 1, 2] = some (.int .i64 2, enHp ⟨sl, s, h, .nil, tk, dn, no, wd⟩ m, [Wd h, (!ofOk h m.c.s) = true]) := by kernel_rfl
theorem ee0_f : callR Eg4 12 enErrF (objA []) (enHp ⟨sl, s, h, .nil, tk, dn, no, wd⟩ m) [f] [0, 1, 2] = some (.int .i64 no, enHp ⟨sl, s, h, .nil, tk, dn, no, wd⟩ m, [Wd h, (!ofOk h m.c.s) = false]) := by kernel_rfl
theorem ee1_t : callR Eg4 12 enErrF (objA []) (enHp ⟨sl, s, h, .row ow l, tk, dn, no, wd⟩ m) [t] [0, 1, 2, 3, 4] = some (.int .i64 2, enHp ⟨sl, s, h, .row ow l, tk, dn, no, wd⟩ m, [Wd h, (!ofOk h m.c.s) = true]) := by cases ow <;> kernel_rfl
theorem ee1_f : callR Eg4 12 enErrF (objA []) (enHp ⟨sl, s, h, .row ow l, tk, dn, no, wd⟩ m) [f] [0, 1, 2, 3, 4] = some (.int .i64 no, enHp ⟨sl, s, h, .row ow l, tk, dn, no, wd⟩ m, [Wd h, (!ofOk h m.c.s) = false]) := by cases ow <;> kernel_rfl
end
def errI (e : En) (m : Mm) : Int := if ofOk e.h m.c.s = true then e.no else 2
theorem enDone_C (e : En) (m : Mm) (hh : Wd e.h) : CallC Tryz.prog enDoneF (objA []) (enHp e m) (.bool (e.dn || !ofOk e.h m.c.s)) (enHp e m) := by
  obtain ⟨sl, s, h, r, tk, dn, no, wd⟩ := e
  simp only at hh
  cases r with
  | nil =>
    cases dn
    · exact CallC.of_call Eg4ok (ed0_f sl s h no wd tk false m) (pcs_of ⟨rfl, hh, trivial⟩) rfl z3
    · exact CallC.of_call Eg4ok (ed0_t sl s h no wd tk true m) (pcs_of ⟨rfl, trivial⟩) rfl z3
  | row ow l =>
    cases dn
    · exact CallC.of_call Eg4ok (ed1_f sl s h no wd tk false m l ow) (pcs_of ⟨rfl, hh, trivial⟩) rfl z5
    · exact CallC.of_call Eg4ok (ed1_t sl s h no wd tk true m l ow) (pcs_of ⟨rfl, trivial⟩) rfl z5
theorem enErr_C (e : En) (m : Mm) (hh : Wd e.h) : CallC Tryz.prog enErrF (objA []) (enHp e m) (.int .i64 (errI e m)) (enHp e m) := by
  obtain ⟨sl, s, h, r, tk, dn, no, wd⟩ := e
  simp only at hh
  unfold errI
  cases r with
  | nil =>
    cases ho : ofOk h m.c.s
    · rw [if_neg (by simp)]
      exact CallC.of_call Eg4ok (ee0_t sl s h no wd tk dn m) (pcs_of ⟨hh, by rw [ho]; rfl, trivial⟩) rfl z3
    · rw [if_pos rfl]
      exact CallC.of_call Eg4ok (ee0_f sl s h no wd tk dn m) (pcs_of ⟨hh, by rw [ho]; rfl, trivial⟩) rfl z3
  | row ow l =>
    cases ho : ofOk h m.c.s
    · rw [if_neg (by simp)]
      exact CallC.of_call Eg4ok (ee1_t sl s h no wd tk dn m l ow) (pcs_of ⟨hh, by rw [ho]; rfl, trivial⟩) rfl z5
    · rw [if_pos rfl]
      exact CallC.of_call Eg4ok (ee1_f sl s h no wd tk dn m l ow) (pcs_of ⟨hh, by rw [ho]; rfl, trivial⟩) rfl z5
abbrev gEd : List Value → Hp → Option (Value × Hp × List Prop) := gEn (fun e m _ => .bool (e.dn || !ofOk e.h m.c.s)) (fun e _ _ => e) (fun _ m _ => m) (fun e _ rest => rest = [] ∧ Wd e.h)
abbrev gEe : List Value → Hp → Option (Value × Hp × List Prop) := gEn (fun e m _ => .int .i64 (errI e m)) (fun e _ _ => e) (fun _ m _ => m) (fun e _ rest => rest = [] ∧ Wd e.h)
noncomputable def Eg5 : Env := (Eg4.add enDoneF gEd).add enErrF gEe
theorem Eg5ok : EnvOk Eg5 :=
  (Eg4ok.add (gEn_ok (enters (fn := Tryz.f101) (by kernel_rfl) (by kernel_rfl) rfl) (fun _ _ _ => rfl) (fun _ _ _ => rfl) fun e m rest h => by
    obtain ⟨rfl, h⟩ := h
    exact enDone_C e m h)).add (gEn_ok (enters (fn := Tryz.f102) (by kernel_rfl) (by kernel_rfl) rfl) (fun _ _ _ => rfl) (fun _ _ _ => rfl) fun e m rest h => by
    obtain ⟨rfl, h⟩ := h
    exact enErr_C e m h)
noncomputable def Eg6 : Env := Eg5
theorem Eg6ok : EnvOk Eg6 := Eg5ok
/-! A leaving -/
structure Lv where
  sl : Int
  s : Int
  st : Int
  lk : Bool
  dn : Bool
def Lv.cells (_ : Nat) (o : Lv) : List Value := [.int .i64 o.sl, .int .u64 o.s, .int .i64 o.st, .bool o.lk, .bool o.dn]
def Lv.dcells (o : Lv) : List Value := [.int .i64 o.sl, .int .i64 o.st, .bool o.lk, .int .u64 o.s, .bool o.dn]
def lvParse (_ : Nat) : List Value → Option Lv
  | [.int .i64 a, .int .u64 b, .int .i64 c, .bool e, .bool f] => some ⟨a, b, c, e, f⟩
  | _ => none
def lvD : List Value → Option Lv
  | [.int .i64 a, .int .i64 c, .bool e, .int .u64 b, .bool f] => some ⟨a, b, c, e, f⟩
  | _ => none
def lO : Obj Lv := ⟨199, Lv.cells, lvParse⟩
theorem lO_ok : lO.Ok := by
  refine ⟨fun n l s h => ?_, .inl fun s => rfl, fun s σ => rfl⟩
  have h' : lvParse n l = some s := h
  unfold lvParse at h'
  split at h'
  · obtain rfl := Option.some.inj h'; rfl
  · cases h'
theorem lvD_some (l : List Value) (o : Lv) (h : lvD l = some o) : l = o.dcells := by
  unfold lvD at h
  split at h
  · obtain rfl := Option.some.inj h; rfl
  · cases h
def lvW (o : Lv) : Int := if o.st < 0 then mvI o.s (nuI o.s 27 3) false else if o.st > 7 then mvI o.s (nuI o.s 27 3) false else mvI o.s o.st false
def lSt (o : Lv) (m : Mm) : Lv :=
  if o.dn = true then o
  else if o.lk = true then ⟨o.sl, o.s, o.st, false, dnS m 4 o.sl o.s⟩
  else ⟨o.sl, getW m.w (cellIx m.c 4 o.sl), o.st, true, o.dn⟩
def lMe (o : Lv) (m : Mm) : Mm :=
  if o.dn = true then m
  else if o.lk = true then mSw m 4 o.sl o.s (lvW o)
  else mLd m 4 o.sl
def lGood (o : Lv) (m : Mm) : Prop := m.ok ∧ WfW m.w ∧ Wd o.s
abbrev lStepF : FuncId := 167
abbrev lDocF : FuncId := 87
open Dec in
section
variable (sl s st : Int) (lk : Bool) (m : Mm)
theorem lw_d : callR Eg6 12 lStepF (objA []) (objHp lO ⟨sl, s, st, lk, true⟩ m) [Dec.l] [0, 1, 2] = some (.tuple ⟨[]⟩, objHp lO ⟨sl, s, st, lk, true⟩ m, []) := by kernel_rfl
theorem lw_k : callR Eg6 12 lStepF (objA []) (objHp lO ⟨sl, s, st, false, false⟩ m) [Dec.l, Dec.l] [0, 1, 2] = some (.tuple ⟨[]⟩, objHp lO ⟨sl, getW m.w (cellIx m.c 4 sl), st, true, false⟩ (mLd m 4 sl), [m.ok]) := by kernel_rfl
theorem lw_1 : callR Eg6 12 lStepF (objA []) (objHp lO ⟨sl, s, st, true, false⟩ m) [Dec.l, Dec.l, t, Dec.l] [0, 1, 2] = some (.tuple ⟨[]⟩, objHp lO ⟨sl, s, st, false, dnS m 4 sl s⟩ (mSw m 4 sl s (mvI s (nuI s 27 3) false)), [decide (st < 0) = true, Wd s, Wd s, m.ok]) := by kernel_rfl
theorem lw_2 : callR Eg6 12 lStepF (objA []) (objHp lO ⟨sl, s, st, true, false⟩ m) [Dec.l, Dec.l, f, t] [0, 1, 2] = some (.tuple ⟨[]⟩, objHp lO ⟨sl, s, st, false, dnS m 4 sl s⟩ (mSw m 4 sl s (mvI s (nuI s 27 3) false)), [decide (st < 0) = false, decide (st > 7) = true, Wd s, Wd s, m.ok]) := by kernel_rfl
theorem lw_3 : callR Eg6 12 lStepF (objA []) (objHp lO ⟨sl, s, st, true, false⟩ m) [Dec.l, Dec.l, f, f] [0, 1, 2] = some (.tuple ⟨[]⟩, objHp lO ⟨sl, s, st, false, dnS m 4 sl s⟩ (mSw m 4 sl s (mvI s st false)), [decide (st < 0) = false, decide (st > 7) = false, Wd s, m.ok]) := by kernel_rfl
theorem lg_d : callR Eg6 12 lDocF (docA Lv.dcells ⟨sl, s, st, lk, true⟩ m) (rHp m) [Dec.l] [0, 1] = some (docV (Lv.dcells ⟨sl, s, st, lk, true⟩) m 0 1, rHp m, []) := by kernel_rfl
theorem lg_k : callR Eg6 12 lDocF (docA Lv.dcells ⟨sl, s, st, false, false⟩ m) (rHp m) [Dec.l, Dec.l] [0, 1, 6, 7] = some (docV (Lv.dcells ⟨sl, getW m.w (cellIx m.c 4 sl), st, true, false⟩) (mLd m 4 sl) 2 3, rVw' m m.w, [m.ok ∧ m.c.Right]) := by kernel_rfl
theorem lg_1 : callR Eg6 12 lDocF (docA Lv.dcells ⟨sl, s, st, true, false⟩ m) (rHp m) [Dec.l, Dec.l, t, Dec.l] [0, 1, 6, 7] = some (docV (Lv.dcells ⟨sl, s, st, false, dnS m 4 sl s⟩) (mSw m 4 sl s (mvI s (nuI s 27 3) false)) 2 3, rVw' m (mSw m 4 sl s (mvI s (nuI s 27 3) false)).w, [decide (st < 0) = true, Wd s, Wd s, m.ok ∧ m.c.Right]) := by kernel_rfl
theorem lg_2 : callR Eg6 12 lDocF (docA Lv.dcells ⟨sl, s, st, true, false⟩ m) (rHp m) [Dec.l, Dec.l, f, t] [0, 1, 6, 7] = some (docV (Lv.dcells ⟨sl, s, st, false, dnS m 4 sl s⟩) (mSw m 4 sl s (mvI s (nuI s 27 3) false)) 2 3, rVw' m (mSw m 4 sl s (mvI s (nuI s 27 3) false)).w, [decide (st < 0) = false, decide (st > 7) = true, Wd s, Wd s, m.ok ∧ m.c.Right]) := by kernel_rfl
theorem lg_3 : callR Eg6 12 lDocF (docA Lv.dcells ⟨sl, s, st, true, false⟩ m) (rHp m) [Dec.l, Dec.l, f, f] [0, 1, 6, 7] = some (docV (Lv.dcells ⟨sl, s, st, false, dnS m 4 sl s⟩) (mSw m 4 sl s (mvI s st false)) 2 3, rVw' m (mSw m 4 sl s (mvI s st false)).w, [decide (st < 0) = false, decide (st > 7) = false, Wd s, m.ok ∧ m.c.Right]) := by kernel_rfl
end
theorem lStep_C (o : Lv) (m : Mm) (h : lGood o m) : CallC Tryz.prog lStepF (objA []) (objHp lO o m) (.tuple ⟨[]⟩) (objHp lO (lSt o m) (lMe o m)) := by
  obtain ⟨sl, s, st, lk, dn⟩ := o
  obtain ⟨ho, hw, hs⟩ := h
  simp only at hs
  cases dn
  · cases lk
    · exact CallC.of_call Eg6ok (lw_k sl s st m) (pcs_of ⟨ho, trivial⟩) rfl z3
    · unfold lSt lMe lvW
      simp only [Bool.false_eq_true, if_false, if_true]
      by_cases h1 : st < 0
      · rw [if_pos h1]
        exact CallC.of_call Eg6ok (lw_1 sl s st m) (pcs_of ⟨decide_eq_true h1, hs, hs, ho, trivial⟩) rfl z3
      · rw [if_neg h1]
        by_cases h2 : st > 7
        · rw [if_pos h2]
          exact CallC.of_call Eg6ok (lw_2 sl s st m) (pcs_of ⟨decide_eq_false h1, decide_eq_true h2, hs, hs, ho, trivial⟩) rfl z3
        · rw [if_neg h2]
          exact CallC.of_call Eg6ok (lw_3 sl s st m) (pcs_of ⟨decide_eq_false h1, decide_eq_false h2, hs, ho, trivial⟩) rfl z3
  · exact CallC.of_call Eg6ok (lw_d sl s st lk m) (pcs_of trivial) rfl z3
theorem lDoc_C (o : Lv) (m : Mm) (h : lGood o m ∧ m.c.Right) : CallC Tryz.prog lDocF (docA Lv.dcells o m) (rHp m) (docV (Lv.dcells (lSt o m)) (lMe o m) 2 3) (rOut m (lMe o m)) := by
  obtain ⟨sl, s, st, lk, dn⟩ := o
  obtain ⟨⟨ho, hw, hs⟩, hri⟩ := h
  simp only at hs
  cases dn
  · cases lk
    · exact r_vw' (V := docV _ _) (docV_rn rfl _) (docV_nm rfl _) (CallC.of_call Eg6ok (lg_k sl s st m) (pcs_of ⟨⟨ho, hri⟩, trivial⟩) rfl z2L)
    · unfold lSt lMe lvW
      simp only [Bool.false_eq_true, if_false, if_true]
      by_cases h1 : st < 0
      · rw [if_pos h1]
        exact r_vw' (V := docV _ _) (docV_rn rfl _) (docV_nm rfl _) (CallC.of_call Eg6ok (lg_1 sl s st m) (pcs_of ⟨decide_eq_true h1, hs, hs, ⟨ho, hri⟩, trivial⟩) rfl z2L)
      · rw [if_neg h1]
        by_cases h2 : st > 7
        · rw [if_pos h2]
          exact r_vw' (V := docV _ _) (docV_rn rfl _) (docV_nm rfl _) (CallC.of_call Eg6ok (lg_2 sl s st m) (pcs_of ⟨decide_eq_false h1, decide_eq_true h2, hs, hs, ⟨ho, hri⟩, trivial⟩) rfl z2L)
        · rw [if_neg h2]
          exact r_vw' (V := docV _ _) (docV_rn rfl _) (docV_nm rfl _) (CallC.of_call Eg6ok (lg_3 sl s st m) (pcs_of ⟨decide_eq_false h1, decide_eq_false h2, hs, ⟨ho, hri⟩, trivial⟩) rfl z2L)
  · exact r_same (V := docV _ m) rfl (docV_rn rfl m) (docV_nm rfl m) (CallC.of_call Eg6ok (lg_d sl s st lk m) (pcs_of trivial) rfl z2L)
theorem lvW_rng {o : Lv} (h : Wd o.s) : Wd (lvW o) := by
  unfold lvW
  split
  · exact mvI_rng h _ _
  · split <;> exact mvI_rng h _ _
theorem lMe_ok {o : Lv} {m : Mm} (h : lGood o m) : (lMe o m).ok ∧ (lMe o m).c = m.c ∧ WfW (lMe o m).w := by
  obtain ⟨ho, hw, hs⟩ := h
  unfold lMe
  split
  · exact ⟨ho, rfl, hw⟩
  · split
    · exact ⟨acc_ok ho (swpW_len _ _ _ _), rfl, hw.swpW _ _ (lvW_rng hs)⟩
    · exact ⟨acc_ok ho rfl, rfl, hw⟩
theorem lSt_s {o : Lv} {m : Mm} (h : lGood o m) : Wd (lSt o m).s := by
  obtain ⟨ho, hw, hs⟩ := h
  unfold lSt
  split
  · exact hs
  · split
    · exact hs
    · exact hw.getW _
theorem lStep_good {o : Lv} {m : Mm} (h : lGood o m) : lGood (lSt o m) (lMe o m) := ⟨(lMe_ok h).1, (lMe_ok h).2.2, lSt_s h⟩
abbrev gL : List Value → Hp → Option (Value × Hp × List Prop) := gObj lO (fun _ _ _ => .tuple ⟨[]⟩) (fun j m _ => lSt j m) (fun j m _ => lMe j m) (fun j m rest => rest = [] ∧ lGood j m)
theorem gL_ok : ∀ args hp v hp' pc, gL args hp = some (v, hp', pc) → ∀ ds, CallOk Tryz.prog lStepF args hp ⟨v, hp', ds, pc⟩ :=
  gObj_ok lO_ok (enters (fn := Tryz.f167) (by kernel_rfl) (by kernel_rfl) rfl) (fun _ _ _ => rfl) fun j m rest h => by
    obtain ⟨rfl, h⟩ := h
    exact lStep_C j m h
abbrev gLd' : List Value → Hp → Option (Value × Hp × List Prop) := gDoc lvD Lv.dcells lSt lMe (fun o m => lGood o m ∧ m.c.Right)
theorem gLd'_ok : ∀ args hp v hp' pc, gLd' args hp = some (v, hp', pc) → ∀ ds, CallOk Tryz.prog lDocF args hp ⟨v, hp', ds, pc⟩ :=
  gDoc_ok lvD_some (fun _ => rfl) (enters (fn := Tryz.f87) (by kernel_rfl) (by kernel_rfl) rfl) lDoc_C
noncomputable def Eg7 : Env := (Eg6.add lStepF gL).add lDocF gLd'
theorem Eg7ok : EnvOk Eg7 := (Eg6ok.add gL_ok).add gLd'_ok
end Go.Proofs.YtocfhiafegkfkaaGreat.Ct
