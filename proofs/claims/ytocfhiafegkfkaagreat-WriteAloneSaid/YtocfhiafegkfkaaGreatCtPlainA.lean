/- A join, an own end, an entering and a leaving, each alone: what they come to, and in how many steps; no program in sight. -/
import Derived.Test.YtocfhiafegkfkaaGreatCtOthers2
import Derived.Test.YtocfhiafegkfkaaGreatCtNew
namespace Go.Proofs.YtocfhiafegkfkaaGreat.Ct
open Go Go.Proofs Go.Proofs.YtocfhiafegkfkaaGreat.Ev
open Go.RowKit

/-! Places -/
theorem ix_slot {c : Cfg} (hr : c.Right) {k n : Int} (hk : k = 4 ∨ k = 5 ∨ k = 6 ∨ k = 7) (h0 : 0 ≤ n) (h1 : n < c.s) : cellIx c k n = 2 + c.t + (k - 4) + n * 4 := by
  unfold cellIx
  rw [if_pos ⟨hr, h0⟩, if_neg (by omega), if_neg (by omega), if_pos hk, if_pos h1]
theorem ix_key {c : Cfg} (hr : c.Right) {n : Int} (h0 : 0 ≤ n) (h1 : n < c.k) : cellIx c 8 n = 2 + c.t + 4 * c.s + n := by
  unfold cellIx
  rw [if_pos ⟨hr, h0⟩, if_neg (by omega), if_neg (by omega), if_neg (by omega), if_pos rfl, if_pos h1]
theorem ix_over {c : Cfg} {k n : Int} (hk : k = 4 ∨ k = 5 ∨ k = 6 ∨ k = 7) (h1 : c.s ≤ n) : cellIx c k n = -1 := by
  unfold cellIx
  split
  · rw [if_neg (show ¬ (k = 1 ∨ k = 2) by omega), if_neg (show ¬ k = 3 by omega)]
    first
      | rw [if_neg (show ¬ n < c.s by omega)]
      | rw [if_pos hk, if_neg (show ¬ n < c.s by omega)]
  · rfl
theorem cfg_rng {c : Cfg} (hr : c.Right) : 1 ≤ c.t ∧ c.t ≤ 8 ∧ 1 ≤ c.s ∧ c.s ≤ 12 ∧ 1 ≤ c.k ∧ c.k ≤ 8 := by
  unfold Cfg.Right at hr
  omega
theorem ix_slot_rng {c : Cfg} (hr : c.Right) {k n : Int} (hk : k = 4 ∨ k = 5 ∨ k = 6 ∨ k = 7) (h0 : 0 ≤ n) (h1 : n < c.s) : 0 ≤ cellIx c k n ∧ cellIx c k n < c.len := by
  have := cfg_rng hr
  rw [ix_slot hr hk h0 h1]
  unfold Cfg.len
  rw [if_pos hr]
  omega
theorem ix_key_rng {c : Cfg} (hr : c.Right) {n : Int} (h0 : 0 ≤ n) (h1 : n < c.k) : 0 ≤ cellIx c 8 n ∧ cellIx c 8 n < c.len := by
  have := cfg_rng hr
  rw [ix_key hr h0 h1]
  unfold Cfg.len
  rw [if_pos hr]
  omega
theorem ix_ne {c : Cfg} (hr : c.Right) {k n k' n' : Int} (hk : k = 4 ∨ k = 5 ∨ k = 6 ∨ k = 7) (hk' : k' = 4 ∨ k' = 5 ∨ k' = 6 ∨ k' = 7) (h0 : 0 ≤ n) (h1 : n < c.s) (h0' : 0 ≤ n') (h1' : n' < c.s) (hne : k ≠ k' ∨ n ≠ n') : cellIx c k n ≠ cellIx c k' n' := by
  rw [ix_slot hr hk h0 h1, ix_slot hr hk' h0' h1']
  omega
theorem ix_nek {c : Cfg} (hr : c.Right) {k n n' : Int} (hk : k = 4 ∨ k = 5 ∨ k = 6 ∨ k = 7) (h0 : 0 ≤ n) (h1 : n < c.s) (h0' : 0 ≤ n') (h1' : n' < c.k) : cellIx c k n ≠ cellIx c 8 n' := by
  have := cfg_rng hr
  rw [ix_slot hr hk h0 h1, ix_key hr h0' h1']
  omega
/-! Words -/
theorem putI_same {w n : Int} {b : Bool} (h : bitI w n = b) : putI w n b = w := if_pos h
theorem withI_has {w sd by' : Int} (h : hasI w sd by' = true) : withI w sd by' = w := by
  unfold hasI at h
  rw [Bool.and_eq_true, decide_eq_true_eq] at h
  unfold withI
  rw [if_neg (by omega), putI_same h.2]
theorem setW_same (w : List Int) (i : Int) : setW w i (getW w i) = w := by
  unfold setW getW
  split
  · exact set_same w _
  · rfl
theorem setW_eq {w : List Int} {i v : Int} (h : getW w i = v) : setW w i v = w := by
  rw [← h]
  exact setW_same w i
theorem swpW_hit {w : List Int} {i o v : Int} (h : getW w i = o) : swpW w i o v = setW w i v := if_pos h
theorem swpW_miss {w : List Int} {i o v : Int} (h : getW w i ≠ o) : swpW w i o v = w := if_neg h
theorem dnS_hit {m : Mm} {kd n o : Int} (h0 : 0 ≤ cellIx m.c kd n) (h : getW m.w (cellIx m.c kd n) = o) : dnS m kd n o = true := by
  unfold dnS
  rw [decide_eq_true h0, h]
  simp
theorem dnS_miss {m : Mm} {kd n o : Int} (h : getW m.w (cellIx m.c kd n) ≠ o) : dnS m kd n o = false := by
  unfold dnS
  rw [beq_eq_false_iff_ne.2 h, Bool.and_false]
theorem setW_set (w : List Int) (i u v : Int) : setW (setW w i u) i v = setW w i v := by
  unfold setW
  split
  · rw [List.set_set]
  · rfl
theorem setW_comm (w : List Int) {i j : Int} (h : i ≠ j) (u v : Int) : setW (setW w i u) j v = setW (setW w j v) i u := by
  unfold setW
  split
  · split
    · rw [List.set_comm]
      omega
    · rfl
  · rfl
/-- A slot's status, its number, and its snapshot; a key's word. -/
def sWd (c : Cfg) (w : List Int) (j : Int) : Int := getW w (cellIx c 4 j)
def nWd (c : Cfg) (w : List Int) (j : Int) : Int := getW w (cellIx c 6 j)
def snWd (c : Cfg) (w : List Int) (j : Int) : Int := getW w (cellIx c 5 j)
def kWd (c : Cfg) (w : List Int) (k : Int) : Int := getW w (cellIx c 8 k)
/-- Whether a status does not go on with one of a snapshot. -/
def goneI (s n sn : Int) : Bool := if nuI s 27 3 = 4 then pastI n sn else !(nuI s 27 3 == 2 || nuI s 27 3 == 3)
/-- Whether a status must not have a conflict. -/
def barI (s sd by' : Int) : Bool := !hasI s sd by' && (nuI s 27 3 != 2 && anyI s (w64 (1 - sd)))
theorem gone_zero (n sn : Int) : goneI 0 n sn = true := rfl
theorem gone_over {c : Cfg} {w : List Int} {j n sn : Int} (h : c.s ≤ j) : goneI (sWd c w j) n sn = true := by
  unfold sWd
  rw [ix_over (.inl rfl) h]
  rfl
/-- It has not to be looked at further. -/
def JE : Nat → Jn → Mm → Jn → Mm → Prop
  | 0, _, _, _, _ => False
  | k + 1, j, m, j', m' => (jSt j m = j' ∧ jMe j m = m' ∧ j'.r ≠ 0) ∨ ((jSt j m).r = 0 ∧ JE k (jSt j m) (jMe j m) j' m')
def OE : Nat → On → Mm → On → Mm → Prop
  | 0, _, _, _, _ => False
  | k + 1, o, m, o', m' => (oSt o m = o' ∧ oMe o m = m' ∧ o'.dn = true) ∨ ((oSt o m).dn = false ∧ OE k (oSt o m) (oMe o m) o' m')
def LE : Nat → Lv → Mm → Lv → Mm → Prop
  | 0, _, _, _, _ => False
  | k + 1, o, m, o', m' => (lSt o m = o' ∧ lMe o m = m' ∧ o'.dn = true) ∨ ((lSt o m).dn = false ∧ LE k (lSt o m) (lMe o m) o' m')
theorem jSt_look {sl sd by' s sn : Int} {m : Mm} : jSt ⟨sl, sd, by', s, lookF, sn, 0⟩ m = (if nuI (sWd m.c m.w sl) 27 3 = 4 then ⟨sl, sd, by', sWd m.c m.w sl, numF, sn, 0⟩ else if nuI (sWd m.c m.w sl) 27 3 = 2 ∨ nuI (sWd m.c m.w sl) 27 3 = 3 then Jn.go ⟨sl, sd, by', sWd m.c m.w sl, lookF, sn, 0⟩ else ⟨sl, sd, by', sWd m.c m.w sl, lookF, sn, 1⟩) := rfl
theorem jSt_num {sl sd by' s sn : Int} {m : Mm} : jSt ⟨sl, sd, by', s, numF, sn, 0⟩ m = (if pastI (nWd m.c m.w sl) sn = true then ⟨sl, sd, by', s, numF, sn, 1⟩ else Jn.go ⟨sl, sd, by', s, numF, sn, 0⟩) := rfl
theorem jSt_lay {sl sd by' s sn : Int} {m : Mm} : jSt ⟨sl, sd, by', s, layF, sn, 0⟩ m = ⟨sl, sd, by', s, lookF, sn, if dnS m 4 sl s = true then 2 else 0⟩ := rfl
theorem jMe_look {sl sd by' s sn : Int} {m : Mm} : jMe ⟨sl, sd, by', s, lookF, sn, 0⟩ m = mLd m 4 sl := rfl
theorem jMe_num {sl sd by' s sn : Int} {m : Mm} : jMe ⟨sl, sd, by', s, numF, sn, 0⟩ m = mLd m 6 sl := rfl
theorem jMe_lay {sl sd by' s sn : Int} {m : Mm} : jMe ⟨sl, sd, by', s, layF, sn, 0⟩ m = mSw m 4 sl s (withI s sd by') := rfl
theorem go_has {sl sd by' s sn : Int} {f : FuncId} (h : hasI s sd by' = true) : Jn.go ⟨sl, sd, by', s, f, sn, 0⟩ = ⟨sl, sd, by', s, f, sn, 2⟩ := by
  unfold Jn.go
  simp only
  rw [jdg_h h, if_neg (by decide)]
theorem go_bar {sl sd by' s sn : Int} {f : FuncId} (h : barI s sd by' = true) : Jn.go ⟨sl, sd, by', s, f, sn, 0⟩ = ⟨sl, sd, by', s, f, sn, 3⟩ := by
  unfold barI at h
  simp only [Bool.and_eq_true, Bool.not_eq_true', bne_iff_ne] at h
  unfold Jn.go
  simp only
  rw [jdg_a (by rw [h.1]; decide) h.2.1 h.2.2, if_neg (by decide)]
theorem go_lay {sl sd by' s sn : Int} {f : FuncId} (h : hasI s sd by' = false) (h2 : barI s sd by' = false) : Jn.go ⟨sl, sd, by', s, f, sn, 0⟩ = ⟨sl, sd, by', s, layF, sn, 0⟩ := by
  unfold barI at h2
  rw [h] at h2
  unfold Jn.go
  simp only
  rw [jdg_0 (by rw [h]; decide) (fun x => by
    rw [bne_iff_ne.2 x.1, x.2] at h2
    cases h2), if_pos rfl]
/-- Behind the judging: what it comes to in a step more, at most. -/
def JOut (c : Cfg) (w : List Int) (x sd by' n : Int) (j' : Jn) (m' : Mm) : Prop :=
  m'.c = c ∧ m'.ok ∧ ((goneI (sWd c w x) (nWd c w x) n = true ∧ j'.r = 1 ∧ m'.w = w) ∨
    (goneI (sWd c w x) (nWd c w x) n = false ∧ barI (sWd c w x) sd by' = true ∧ j'.r = 3 ∧ m'.w = w) ∨
    (goneI (sWd c w x) (nWd c w x) n = false ∧ barI (sWd c w x) sd by' = false ∧ j'.r = 2 ∧ m'.w = setW w (cellIx c 4 x) (withI (sWd c w x) sd by')))
theorem join_judged {c : Cfg} {m : Mm} {x sd by' n : Int} (k : Nat) (hr : c.Right) {j : Jn} {m1 : Mm} {f : FuncId} (e1 : jSt j m = Jn.go ⟨x, sd, by', sWd c m.w x, f, n, 0⟩) (e2 : jMe j m = m1) (hm1 : m1.ok) (hc1 : m1.c = c) (hw1 : m1.w = m.w)
    (hg : goneI (sWd c m.w x) (nWd c m.w x) n = false) (h0 : 0 ≤ x) : ∃ j' m', JE (k + 2) j m j' m' ∧ JOut c m.w x sd by' n j' m' := by
  have hx : x < c.s := Int.lt_of_not_ge fun h => by rw [gone_over h] at hg; cases hg
  have hix := (ix_slot_rng hr (k := 4) (.inl rfl) h0 hx).1
  cases hh : hasI (sWd c m.w x) sd by' with
  | true =>
    have e := e1.trans (go_has hh)
    have hb : barI (sWd c m.w x) sd by' = false := by unfold barI; rw [hh]; rfl
    exact ⟨_, _, .inl ⟨e, e2, by show (2 : Int) ≠ 0; decide⟩, hc1, hm1, .inr (.inr ⟨hg, hb, rfl, by rw [hw1, withI_has hh]; exact (setW_eq rfl).symm⟩)⟩
  | false =>
    cases hb : barI (sWd c m.w x) sd by' with
    | true =>
      have e := e1.trans (go_bar hb)
      exact ⟨_, _, .inl ⟨e, e2, by show (3 : Int) ≠ 0; decide⟩, hc1, hm1, .inr (.inl ⟨hg, hb, rfl, hw1⟩)⟩
    | false =>
      have e := e1.trans (go_lay hh hb)
      have hd : dnS m1 4 x (sWd c m.w x) = true := dnS_hit (by rw [hc1]; exact hix) (by rw [hc1, hw1]; rfl)
      refine ⟨⟨x, sd, by', sWd c m.w x, lookF, n, 2⟩, mSw m1 4 x (sWd c m.w x) (withI (sWd c m.w x) sd by'), .inr ⟨by rw [e], .inl ⟨?_, ?_, by show (2 : Int) ≠ 0; decide⟩⟩, hc1, acc_ok hm1 (swpW_len _ _ _ _), .inr (.inr ⟨hg, hb, rfl, ?_⟩)⟩
      · rw [e, e2, jSt_lay, hd]; rfl
      · rw [e, e2, jMe_lay]
      · show swpW m1.w (cellIx m1.c 4 x) _ _ = _
        rw [hc1, hw1]
        exact swpW_hit rfl
/-- A join alone. -/
theorem join_alone {c : Cfg} {m : Mm} {x sd by' n : Int} (hr : c.Right) (hm : m.ok) (hc : m.c = c) (h0 : 0 ≤ x) : ∃ j' m', JE 3 ⟨x, sd, by', 0, lookF, n, 0⟩ m j' m' ∧ JOut c m.w x sd by' n j' m' := by
  have hok : (mLd m 4 x).ok := acc_ok hm rfl
  have e2 : jMe ⟨x, sd, by', 0, lookF, n, 0⟩ m = mLd m 4 x := jMe_look
  have e1 : jSt ⟨x, sd, by', 0, lookF, n, 0⟩ m = _ := jSt_look
  rw [hc] at e1
  by_cases h4 : nuI (sWd c m.w x) 27 3 = 4
  · rw [if_pos h4] at e1
    have e4 : goneI (sWd c m.w x) (nWd c m.w x) n = pastI (nWd c m.w x) n := if_pos h4
    have e3 : jSt ⟨x, sd, by', sWd c m.w x, numF, n, 0⟩ (mLd m 4 x) = _ := jSt_num
    rw [show nWd (mLd m 4 x).c (mLd m 4 x).w x = nWd c m.w x by show nWd m.c m.w x = _; rw [hc]] at e3
    cases hp : pastI (nWd c m.w x) n with
    | true =>
      rw [hp, if_pos rfl] at e3
      refine ⟨_, _, .inr ⟨by rw [e1], .inl ⟨rfl, rfl, ?_⟩⟩, ?_⟩
      · rw [e1, e2, e3]; show (1 : Int) ≠ 0; decide
      · rw [e1, e2, e3, jMe_num]
        exact ⟨hc, acc_ok hok rfl, .inl ⟨e4.trans hp, rfl, rfl⟩⟩
    | false =>
      rw [hp, if_neg (by decide)] at e3
      obtain ⟨j', m', q1, q2⟩ := join_judged (m := mLd m 4 x) (x := x) (sd := sd) (by' := by') (n := n) 0 hr e3 rfl (by rw [jMe_num]; exact acc_ok hok rfl) (by rw [jMe_num]; exact hc) (by rw [jMe_num]; rfl) (e4.trans hp) h0
      exact ⟨j', m', .inr ⟨by rw [e1], by rw [e1, e2]; exact q1⟩, q2⟩
  · rw [if_neg h4] at e1
    have e4 : goneI (sWd c m.w x) (nWd c m.w x) n = !(nuI (sWd c m.w x) 27 3 == 2 || nuI (sWd c m.w x) 27 3 == 3) := if_neg h4
    by_cases h2 : nuI (sWd c m.w x) 27 3 = 2 ∨ nuI (sWd c m.w x) 27 3 = 3
    · rw [if_pos h2] at e1
      have hg : goneI (sWd c m.w x) (nWd c m.w x) n = false := by
        rw [e4]
        rcases h2 with h | h <;> rw [h] <;> rfl
      exact join_judged 1 hr e1 e2 hok hc rfl hg h0
    · rw [if_neg h2] at e1
      have hg : goneI (sWd c m.w x) (nWd c m.w x) n = true := by
        rw [e4, beq_eq_false_iff_ne.2 fun h => h2 (.inl h), beq_eq_false_iff_ne.2 fun h => h2 (.inr h)]
        rfl
      exact ⟨_, _, .inl ⟨e1, e2, by show (1 : Int) ≠ 0; decide⟩, hc, hok, .inl ⟨hg, rfl, rfl⟩⟩
/-- An own end alone. -/
theorem own_alone {c : Cfg} {m : Mm} {i sd x : Int} (hr : c.Right) (hm : m.ok) (hc : m.c = c) (h0 : 0 ≤ i) (h1 : i < c.s) : ∃ o' m', OE 2 ⟨i, sd, x, 0, false, false⟩ m o' m' ∧ m'.c = c ∧ m'.ok ∧ m'.w = setW m.w (cellIx c 4 i) (withI (sWd c m.w i) sd x) := by
  have hix := (ix_slot_rng hr (k := 4) (.inl rfl) h0 h1).1
  have hok : (mLd m 4 i).ok := acc_ok hm rfl
  have e1 : oSt ⟨i, sd, x, 0, false, false⟩ m = ⟨i, sd, x, sWd c m.w i, true, withI (sWd c m.w i) sd x == sWd c m.w i⟩ := by
    rw [← hc]; rfl
  have e2 : oMe ⟨i, sd, x, 0, false, false⟩ m = mLd m 4 i := rfl
  cases hw : (withI (sWd c m.w i) sd x == sWd c m.w i) with
  | true =>
    refine ⟨_, _, .inl ⟨e1, e2, hw⟩, hc, hok, ?_⟩
    rw [beq_iff_eq.1 hw]
    exact (setW_eq rfl).symm
  | false =>
    have hd : dnS (mLd m 4 i) 4 i (sWd c m.w i) = true := dnS_hit (by show 0 ≤ cellIx m.c 4 i; rw [hc]; exact hix) (by show getW m.w (cellIx m.c 4 i) = _; rw [hc]; rfl)
    refine ⟨⟨i, sd, x, sWd c m.w i, false, true⟩, mSw (mLd m 4 i) 4 i (sWd c m.w i) (withI (sWd c m.w i) sd x), .inr ⟨by rw [e1]; exact hw, .inl ⟨?_, ?_, rfl⟩⟩, hc, acc_ok hok (swpW_len _ _ _ _), ?_⟩
    · rw [e1, e2, hw]
      show (⟨i, sd, x, sWd c m.w i, false, dnS (mLd m 4 i) 4 i (sWd c m.w i)⟩ : On) = _
      rw [hd]
    · rw [e1, e2, hw]; rfl
    · show swpW m.w (cellIx m.c 4 i) _ _ = _
      rw [hc]
      exact swpW_hit rfl
/-- A leaving alone. -/
def lvS (s st : Int) : Int := if st < 0 then nuI s 27 3 else if st > 7 then nuI s 27 3 else st
theorem leave_alone {c : Cfg} {m : Mm} {i st : Int} (hr : c.Right) (hm : m.ok) (hc : m.c = c) (h0 : 0 ≤ i) (h1 : i < c.s) : ∃ o' m', LE 2 ⟨i, 0, st, false, false⟩ m o' m' ∧ m'.c = c ∧ m'.ok ∧ m'.w = setW m.w (cellIx c 4 i) (mvI (sWd c m.w i) (lvS (sWd c m.w i) st) false) := by
  have hix := (ix_slot_rng hr (k := 4) (.inl rfl) h0 h1).1
  have hok : (mLd m 4 i).ok := acc_ok hm rfl
  have e1 : lSt ⟨i, 0, st, false, false⟩ m = ⟨i, sWd c m.w i, st, true, false⟩ := by
    rw [← hc]; rfl
  have e2 : lMe ⟨i, 0, st, false, false⟩ m = mLd m 4 i := rfl
  have hd : dnS (mLd m 4 i) 4 i (sWd c m.w i) = true := dnS_hit (by show 0 ≤ cellIx m.c 4 i; rw [hc]; exact hix) (by show getW m.w (cellIx m.c 4 i) = _; rw [hc]; rfl)
  have e3 : lSt ⟨i, sWd c m.w i, st, true, false⟩ (mLd m 4 i) = ⟨i, sWd c m.w i, st, false, true⟩ := by
    show (⟨i, sWd c m.w i, st, false, dnS (mLd m 4 i) 4 i (sWd c m.w i)⟩ : Lv) = _
    rw [hd]
  refine ⟨⟨i, sWd c m.w i, st, false, true⟩, mSw (mLd m 4 i) 4 i (sWd c m.w i) (lvW ⟨i, sWd c m.w i, st, true, false⟩), .inr ⟨by rw [e1], .inl ⟨?_, ?_, rfl⟩⟩, hc, acc_ok hok (swpW_len _ _ _ _), ?_⟩
  · rw [e1, e2, e3]
  · rw [e1, e2]; rfl
  · show swpW m.w (cellIx m.c 4 i) _ _ = _
    rw [hc, swpW_hit (show getW m.w (cellIx c 4 i) = sWd c m.w i from rfl)]
    unfold lvW lvS
    simp only
    split
    · rfl
    · split <;> rfl
end Go.Proofs.YtocfhiafegkfkaaGreat.Ct
