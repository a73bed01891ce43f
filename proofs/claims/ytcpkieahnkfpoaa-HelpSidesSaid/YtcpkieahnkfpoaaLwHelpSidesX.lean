/- What 'HelpSides' comes to, of any input, from its paths. -/
import Derived.Test.YtcpkieahnkfpoaaLwHelpSidesW
namespace Go.Proofs.Ytcpkieahnkfpoaa.HelpSidesDone
open Go Go.Proofs Go.Proofs.Ytcpkieahnkfpoaa.Ev Go.Proofs.Ytcpkieahnkfpoaa.Ct
open Go.RowKit

theorem ix_slot {c : Cfg} (hr : c.Right) {k sl : Int} (hk : k = 4 ∨ k = 5 ∨ k = 6 ∨ k = 7) (h0 : 0 ≤ sl) (h1 : sl < c.s) : cellIx c k sl = 2 + c.t + (k - 4) + sl * 4 := by
  unfold cellIx
  rw [if_pos ⟨hr, h0⟩, if_neg (by omega), if_neg (by omega), if_pos hk, if_pos h1]
theorem swp_hit {w : List Int} {i o v : Int} (h : getW w i = o) : swpW w i o v = setW w i v := by
  unfold swpW
  rw [if_pos h]
theorem swp_miss {w : List Int} {i o v : Int} (h : getW w i ≠ o) : swpW w i o v = w := by
  unfold swpW
  rw [if_neg h]
theorem swp_ne {w : List Int} {i j o v : Int} (h : i ≠ j) : getW (swpW w i o v) j = getW w j := by
  by_cases e : getW w i = o
  · rw [swp_hit e, getW_set_ne h]
  · rw [swp_miss e]
def PA (st want : Int) : Prop := st / 16777216 = 24 ∧ want = st + 134217728
def PB (st want : Int) : Prop := st / 16777216 = 32 ∧ want = st
def PI (k : Hk) (st nb want : Int) : Prop :=
  match k with
  | .num => nb = 0 ∧ PA st want
  | .look => nb = 7 ∧ PA st want
  | .lay => nb = 7 ∧ PA st want
  | .set => nb = 7 ∧ PB st want
  | .fin => nb = 7 ∧ PB st want
theorem PA.wd {st want : Int} (h : PA st want) : Wd st ∧ Wd want := by
  obtain ⟨h1, rfl⟩ := h
  exact ⟨⟨by omega, by omega⟩, ⟨by omega, by omega⟩⟩
theorem PB.wd {st want : Int} (h : PB st want) : Wd st ∧ Wd want := by
  obtain ⟨h1, rfl⟩ := h
  exact ⟨⟨by omega, by omega⟩, ⟨by omega, by omega⟩⟩
theorem PI.wd {k : Hk} {st nb want : Int} (h : PI k st nb want) : Wd st ∧ Wd want := by
  cases k
  · exact h.2.wd
  · exact h.2.wd
  · exact h.2.wd
  · exact h.2.wd
  · exact h.2.wd
theorem PA.poke {st want : Int} (h : PA st want) (a b : Int) : PA (withI st a b) (withI want a b) := by
  have h0 := h.wd.1.1
  obtain ⟨h1, rfl⟩ := h
  refine ⟨by rw [withI_hi h0]; exact h1, ?_⟩
  rw [show st + 134217728 = st + 8 * 16777216 by omega, withI_add]
  omega
theorem PB.poke {st want : Int} (h : PB st want) (a b : Int) : PB (withI st a b) (withI want a b) := by
  have h0 := h.wd.1.1
  obtain ⟨h1, rfl⟩ := h
  exact ⟨by rw [withI_hi h0]; exact h1, rfl⟩
theorem PI.poke {k : Hk} {st nb want : Int} (h : PI k st nb want) (a b : Int) : PI k (withI st a b) nb (withI want a b) := by
  cases k
  · exact ⟨h.1, h.2.poke a b⟩
  · exact ⟨h.1, h.2.poke a b⟩
  · exact ⟨h.1, h.2.poke a b⟩
  · exact ⟨h.1, h.2.poke a b⟩
  · exact ⟨h.1, h.2.poke a b⟩
theorem PA.laid {st want : Int} (h : PA st want) : PB (mvB st (bsB st)) want ∧ stB st = 3 := by
  have hw := h.wd.1
  obtain ⟨h1, rfl⟩ := h
  have eb : bsB st = false := by
    rw [bsB_eq hw.1 hw.2, beq_eq_false_iff_ne]
    omega
  rw [eb, mvB_eq hw.1 hw.2, stB_eq hw.1 hw.2]
  have e : mvW st false = st + 134217728 := by
    unfold mvW
    simp only [Bool.false_eq_true, if_false]
    omega
  rw [e]
  exact ⟨⟨by omega, rfl⟩, by unfold stW; omega⟩
/-- The cells that a help looks at. -/
structure Cl (c : Cfg) (sl : Int) : Prop where
  right : c.Right
  s0 : 0 ≤ sl
  s1 : sl < c.s
theorem Cl.word {c : Cfg} {sl : Int} (h : Cl c sl) : wT sl = 113 + sl ∧ pendB (wT sl) = sl ∧ seqB (wT sl) = 7 := by
  obtain ⟨hr, h0, h1⟩ := h
  unfold Cfg.Right at hr
  have e : wT sl = 113 + sl := by
    unfold wT
    rw [w64_in (n := 112 + sl) (by omega) (by omega), w64_in (by omega) (by omega), w_u64 (by omega) (by omega)]
    omega
  refine ⟨e, ?_, ?_⟩
  · rw [e, pendB_eq (by omega) (by omega)]; omega
  · rw [e, seqB_eq]; omega
theorem Cl.ix {c : Cfg} {sl : Int} (h : Cl c sl) : 0 ≤ cellIx c 4 sl ∧ cellIx c 4 sl < c.len ∧ 0 ≤ cellIx c 6 sl ∧ cellIx c 6 sl < c.len ∧ cellIx c 4 sl ≠ cellIx c 6 sl ∧ cellIx c 1 0 ≠ cellIx c 4 sl ∧ cellIx c 1 0 ≠ cellIx c 6 sl ∧ cellIx c 1 0 = 0 ∧ 0 < c.len := by
  obtain ⟨hr, h0, h1⟩ := h
  have hr' := hr
  unfold Cfg.Right at hr'
  have hl : c.len = 2 + c.t + 4 * c.s + c.k := if_pos hr
  have i0 := ix_tally hr
  have e4 := ix_slot hr (k := 4) (sl := sl) (by omega) h0 h1
  have e6 := ix_slot hr (k := 6) (sl := sl) (by omega) h0 h1
  rw [e4, e6, i0]
  refine ⟨?_, ?_, ?_, ?_, ?_, ?_, ?_, rfl, ?_⟩ <;> omega
structure SI (c : Cfg) (sl : Int) (m : Mm) (k : Hk) (want : Int) : Prop where
  ok : m.ok
  cc : m.c = c
  p : PI k (getW m.w (cellIx c 4 sl)) (getW m.w (cellIx c 6 sl)) want
theorem SI.start {c : Cfg} {sl : Int} (h : Cl c sl) : SI c sl (M0 c sl) .num (nwI 4 0) := by
  obtain ⟨i1, i2, i3, i4, i5, i6, i7, i8, i9⟩ := h.ix
  have o0 := nwM_ok h.right
  have hz := zW_len h.right
  have o1 : (mSt (nwM c) 1 0 (wT sl)).ok := acc_ok o0 (setW_len _ _ _)
  refine ⟨acc_ok o1 (setW_len _ _ _), rfl, ?_⟩
  have e4 : getW (M0 c sl).w (cellIx c 4 sl) = nwI 3 0 := getW_set_same i1 (by show _ < ((setW (zW c) _ _).length : Int); rw [setW_len, hz]; exact i2)
  have e6 : getW (M0 c sl).w (cellIx c 6 sl) = 0 := by
    show getW (setW (setW (zW c) (cellIx c 1 0) _) (cellIx c 4 sl) _) _ = 0
    rw [getW_set_ne i5, getW_set_ne i7, getW_zero]
  rw [e4, e6]
  exact ⟨rfl, by unfold nwI; decide, by unfold nwI; decide⟩
theorem SI.poke {c : Cfg} {sl : Int} (hc : Cl c sl) {m : Mm} {k : Hk} {want : Int} (h : SI c sl m k want) (x : Int) : SI c sl (mP sl x m) k (withI want (xs x) sl) := by
  obtain ⟨i1, i2, i3, i4, i5, i6, i7, i8, i9⟩ := hc.ix
  obtain ⟨ho, rfl, hp⟩ := h
  have o1 : (mLd m 4 sl).ok := acc_ok ho rfl
  refine ⟨acc_ok o1 (setW_len _ _ _), rfl, ?_⟩
  have hl : (m.w.length : Int) = m.c.len := ho.2
  have e4 : getW (mP sl x m).w (cellIx m.c 4 sl) = withI (vS sl m) (xs x) sl := getW_set_same i1 (by show _ < (m.w.length : Int); rw [hl]; exact i2)
  have e6 : getW (mP sl x m).w (cellIx m.c 6 sl) = getW m.w (cellIx m.c 6 sl) := getW_set_ne i5
  rw [e4, e6]
  exact hp.poke _ _
theorem SI.step {c : Cfg} {sl : Int} (hc : Cl c sl) {m : Mm} {k : Hk} {want : Int} (h : SI c sl m k want) (s : Int) : SI c sl (hStep (wT sl) m k s).2.2 (hStep (wT sl) m k s).1 want := by
  obtain ⟨i1, i2, i3, i4, i5, i6, i7, i8, i9⟩ := hc.ix
  obtain ⟨w1, w2, w3⟩ := hc.word
  obtain ⟨q1, q2⟩ := N20.hStep_ok (wT sl) h.ok k s
  obtain ⟨ho, rfl, hp⟩ := h
  refine ⟨q1, q2, ?_⟩
  have hl : (m.w.length : Int) = m.c.len := ho.2
  cases k with
  | num =>
    show PI .look (getW (swpW m.w (cellIx m.c 6 (pendB (wT sl))) 0 (seqB (wT sl))) _) (getW (swpW m.w (cellIx m.c 6 (pendB (wT sl))) 0 (seqB (wT sl))) _) want
    rw [w2, w3, swp_ne (by omega), swp_hit hp.1, getW_set_same i3 (by omega)]
    exact ⟨rfl, hp.2⟩
  | look =>
    have e3 : stB (N20.lookV (wT sl) m) = 3 := by
      show stB (getW m.w (cellIx m.c 4 (pendB (wT sl)))) = 3
      rw [w2]
      exact hp.2.laid.2
    show PI (if stB (N20.lookV (wT sl) m) = 3 then .lay else .set) (getW m.w _) (getW m.w _) want
    rw [if_pos e3]
    exact hp
  | lay =>
    show PI (if dnS m 4 (pendB (wT sl)) s = true then .set else .look) (getW (swpW m.w (cellIx m.c 4 (pendB (wT sl))) s (mvB s (bsB s))) _) (getW (swpW m.w (cellIx m.c 4 (pendB (wT sl))) s (mvB s (bsB s))) _) want
    rw [w2, swp_ne (i := cellIx m.c 4 sl) (j := cellIx m.c 6 sl) i5]
    by_cases e : getW m.w (cellIx m.c 4 sl) = s
    · have hd : dnS m 4 sl s = true := by
        unfold dnS
        simp only [Bool.and_eq_true, decide_eq_true_eq, beq_iff_eq]
        first | exact ⟨i1, e⟩ | exact e
      rw [if_pos hd, swp_hit e, getW_set_same i1 (by omega)]
      subst e
      exact ⟨hp.1, hp.2.laid.1⟩
    · have hd : ¬ dnS m 4 sl s = true := by
        unfold dnS
        simp only [Bool.and_eq_true, decide_eq_true_eq, beq_iff_eq]
        first | exact fun x => e x.2 | exact e
      rw [if_neg hd, swp_miss e]
      exact hp
  | set =>
    show PI .fin (getW (swpW m.w (cellIx m.c 1 0) (wT sl) (setB (wT sl))) _) (getW (swpW m.w (cellIx m.c 1 0) (wT sl) (setB (wT sl))) _) want
    rw [swp_ne i6, swp_ne i7]
    exact hp
  | fin => exact hp
def mu (st : Int) (k : Hk) (s : Int) : Nat :=
  match k with
  | .num => 4
  | .look => 3
  | .lay => if st = s then 2 else 4
  | .set => 1
  | .fin => 0
theorem mu_step {c : Cfg} {sl : Int} (hc : Cl c sl) {m : Mm} {k : Hk} {want : Int} (h : SI c sl m k want) (s : Int) (hk : k ≠ .fin) : mu (getW (hStep (wT sl) m k s).2.2.w (cellIx c 4 sl)) (hStep (wT sl) m k s).1 (hStep (wT sl) m k s).2.1 < mu (getW m.w (cellIx c 4 sl)) k s := by
  obtain ⟨w1, w2, w3⟩ := hc.word
  obtain ⟨i1, _⟩ := hc.ix
  obtain ⟨ho, rfl, hp⟩ := h
  cases k with
  | num => show (3 : Nat) < 4; omega
  | look =>
    have e3 : stB (N20.lookV (wT sl) m) = 3 := by
      show stB (getW m.w (cellIx m.c 4 (pendB (wT sl)))) = 3
      rw [w2]
      exact hp.2.laid.2
    show mu (getW m.w (cellIx m.c 4 sl)) (if stB (N20.lookV (wT sl) m) = 3 then .lay else .set) (getW m.w (cellIx m.c 4 (pendB (wT sl)))) < 3
    rw [if_pos e3, w2]
    show (if _ = _ then 2 else 4 : Nat) < 3
    rw [if_pos rfl]
    omega
  | lay =>
    show mu (getW (swpW m.w (cellIx m.c 4 (pendB (wT sl))) s (mvB s (bsB s))) _) (if dnS m 4 (pendB (wT sl)) s = true then .set else .look) s < (if _ = _ then 2 else 4 : Nat)
    rw [w2]
    by_cases e : getW m.w (cellIx m.c 4 sl) = s
    · have hd : dnS m 4 sl s = true := by
        unfold dnS
        simp only [Bool.and_eq_true, decide_eq_true_eq, beq_iff_eq]
        first | exact ⟨i1, e⟩ | exact e
      rw [if_pos hd, if_pos e]
      show 1 < 2
      omega
    · have hd : ¬ dnS m 4 sl s = true := by
        unfold dnS
        simp only [Bool.and_eq_true, decide_eq_true_eq, beq_iff_eq]
        first | exact fun x => e x.2 | exact e
      rw [if_neg hd, if_neg e]
      show 3 < 4
      omega
  | set => show (0 : Nat) < 1; omega
  | fin => exact absurd rfl hk
theorem SI.run {c : Cfg} {sl : Int} (hc : Cl c sl) {want : Int} : ∀ (n i : Nat) (k : Hk) (s : Int) (m : Mm), SI c sl m k want → mu (getW m.w (cellIx c 4 sl)) k s ≤ n → (hRun (wT sl) n i k s m).2.1 = .fin ∧ SI c sl (hRun (wT sl) n i k s m).2.2.2 .fin want := by
  intro n
  induction n with
  | zero =>
    intro i k s m h hm
    have hk : k = .fin := by
      cases k with
      | lay =>
        exfalso
        have : (if getW m.w (cellIx c 4 sl) = s then 2 else 4 : Nat) ≤ 0 := hm
        split at this <;> omega
      | fin => rfl
      | num => exact absurd (show (4 : Nat) ≤ 0 from hm) (by omega)
      | look => exact absurd (show (3 : Nat) ≤ 0 from hm) (by omega)
      | set => exact absurd (show (1 : Nat) ≤ 0 from hm) (by omega)
    subst hk
    exact ⟨rfl, h⟩
  | succ n ih =>
    intro i k s m h hm
    by_cases hk : k = .fin
    · subst hk
      exact ⟨rfl, h⟩
    · have e : hRun (wT sl) (n + 1) i k s m = hRun (wT sl) n (i + 1) (hStep (wT sl) m k s).1 (hStep (wT sl) m k s).2.1 (hStep (wT sl) m k s).2.2 := by
        cases k with
        | fin => exact absurd rfl hk
        | num => rfl
        | look => rfl
        | lay => rfl
        | set => rfl
      rw [e]
      exact ih _ _ _ _ (h.step hc s) (by have := mu_step hc h s hk; omega)
theorem z1 {tl : List Nat} : ∀ k, k < 1 → (0 :: tl : List Nat).getD k 0 = k := fun k hk => by
  match k, hk with
  | 0, _ => rfl
open Dec in
theorem stepA (sl : Int) (m : Mm) (k : Hk) (s want : Int) (i of2 cap2 : Nat) (L : List Int) (hd : ∀ p ∈ ld sl m want of2 L i, p) (hm : (mI sl m of2 L i).ok) (hk : k ≠ .fin) :
    ∃ ds, CodeC E 1 (bd fn lp) (fr (.row of2 cap2 L) sl m k s want (i : Int) ds) (fun ex fr1 => ex = .normal ∧ fr1 = fr (.row of2 cap2 L) sl (hStep (wT sl) (mI sl m of2 L i) k s).2.2 (hStep (wT sl) (mI sl m of2 L i) k s).1 (hStep (wT sl) (mI sl m of2 L i) k s).2.1 (wI sl want of2 L i) (w64 ((i : Int) + 1)) []) := by
  cases k with
  | num => exact ⟨_, CodeC.of_run Eok (a_num sl m s want i of2 cap2 L) (pcs_app hd (pcs_of ⟨hm, trivial⟩)) (show 1 ≤ 4 by omega) z1 ⟨rfl, rfl⟩⟩
  | look =>
    by_cases e : stB (N20.lookV (wT sl) (mI sl m of2 L i)) = 3
    · refine ⟨_, CodeC.of_run Eok (a_lkt sl m s want i of2 cap2 L) (pcs_app hd (pcs_of ⟨hm, beq_iff_eq.2 e, trivial⟩)) (show 1 ≤ 4 by omega) z1 ⟨rfl, ?_⟩⟩
      show _ = fr _ _ _ (if _ then _ else _) _ _ _ _
      rw [if_pos e]; rfl
    · refine ⟨_, CodeC.of_run Eok (a_lkf sl m s want i of2 cap2 L) (pcs_app hd (pcs_of ⟨hm, beq_eq_false_iff_ne.2 e, trivial⟩)) (show 1 ≤ 4 by omega) z1 ⟨rfl, ?_⟩⟩
      show _ = fr _ _ _ (if _ then _ else _) _ _ _ _
      rw [if_neg e]; rfl
  | lay =>
    cases e : dnS (mI sl m of2 L i) 4 (pendB (wT sl)) s
    · refine ⟨_, CodeC.of_run Eok (a_lyf sl m s want i of2 cap2 L) (pcs_app hd (pcs_of ⟨hm, e, trivial⟩)) (show 1 ≤ 4 by omega) z1 ⟨rfl, ?_⟩⟩
      show _ = fr _ _ _ (if _ then _ else _) _ _ _ _
      rw [if_neg (by rw [e]; simp)]; rfl
    · refine ⟨_, CodeC.of_run Eok (a_lyt sl m s want i of2 cap2 L) (pcs_app hd (pcs_of ⟨hm, e, trivial⟩)) (show 1 ≤ 4 by omega) z1 ⟨rfl, ?_⟩⟩
      show _ = fr _ _ _ (if _ then _ else _) _ _ _ _
      rw [if_pos e]; rfl
  | set => exact ⟨_, CodeC.of_run Eok (a_set sl m s want i of2 cap2 L) (pcs_app hd (pcs_of ⟨hm, trivial⟩)) (show 1 ≤ 4 by omega) z1 ⟨rfl, rfl⟩⟩
  | fin => exact absurd rfl hk
theorem big_orI (ik : Ik) : (∃ of2 cap2 L, ik = .row of2 cap2 L ∧ 20 < L.length) ∨ ((∀ p ∈ ik.big, p) ∧ ik.len ≤ 20) := by
  cases ik with
  | nil => exact .inr ⟨pcs_of trivial, Nat.zero_le _⟩
  | row of2 cap2 L =>
    by_cases h : L.length ≤ 20
    · exact .inr ⟨pcs_of ⟨decide_eq_false (by omega), trivial⟩, h⟩
    · exact .inl ⟨of2, cap2, L, rfl, by omega⟩
open Dec in
theorem main (c : Cfg) (sl : Int) (ik : Ik) (hr : c.Right) : CallC Try.prog fid (args c sl (ik.sv 0)) (iHp ik) (.bool true) (iHp ik) := by
  by_cases h0 : sl < 0
  · exact CallC.of_call Eok (hs_lo c sl ik) (pcs_of ⟨hr, decide_eq_true h0, trivial⟩) rfl z1
  by_cases h1 : sl ≥ c.s
  · exact CallC.of_call Eok (hs_hi c sl ik) (pcs_of ⟨hr, decide_eq_false h0, decide_eq_true h1, trivial⟩) rfl z1
  rcases big_orI ik with ⟨of2, cap2, L, rfl, hb⟩ | ⟨hb, hl⟩
  · exact CallC.of_call Eok (hs_big c sl of2 cap2 L) (pcs_of ⟨hr, decide_eq_false h0, decide_eq_false h1, decide_eq_true (by omega), trivial⟩) rfl z1
  have hc : Cl c sl := ⟨hr, by omega, by omega⟩
  obtain ⟨w1, w2, w3⟩ := hc.word
  have o0 := nwM_ok hr
  have o1 : (mSt (nwM c) 1 0 (wT sl)).ok := acc_ok o0 (setW_len _ _ _)
  refine CallC.of_body (E := E) (ds := []) (fn := fn) 110 (by kernel_rfl) (by kernel_rfl) (by kernel_rfl) (by kernel_rfl) ?_
  refine KC.of_exec (fr := start c sl ik [Dec.l, Dec.l, f, f, dsB ik, t, Dec.l]) Eok (hs_in c sl ik) (pcs_app (pcs_of ⟨hr, decide_eq_false h0, decide_eq_false h1, trivial⟩) (pcs_app hb (pcs_of ⟨o0, by decide, o1, decide_eq_true (by rw [w2]; omega), by decide, trivial⟩))) (Nat.le_refl _) z1 ?_
  refine KC.loop (m0 := 1) (ι := Nat × Mm × Hk × Int × Int) (fun x => fr ik sl x.2.1 x.2.2.1 x.2.2.2.1 x.2.2.2.2 (x.1 : Int) []) (fun x => x.1 ≤ ik.len ∧ SI c sl x.2.1 x.2.2.1 x.2.2.2.2) (fun x => ik.len - x.1)
    (fun ex fr => ex = .exit 0 ∧ ∃ m k s want, SI c sl m k want ∧ fr = frM ik sl m k s want []) (fun x hx => ?_) ?_ (0, M0 c sl, .num, 0, nwI 4 0) ⟨Nat.zero_le _, SI.start hc⟩
  · obtain ⟨i, m, k, s, want⟩ := x
    obtain ⟨hi, hI⟩ := hx
    simp only at hi hI ⊢
    by_cases hlt : i < ik.len
    · cases ik with
      | nil => exact absurd hlt (Nat.not_lt_zero _)
      | row of2 cap2 L =>
        have hlt' : i < L.length := hlt
        have hl' : L.length ≤ 20 := hl
        have he : ∀ p ∈ e0 of2 L i, p := pcs_of ⟨decide_eq_true (by omega), by omega, by omega, by rw [addN_eq]; omega, by rw [jv_eq]; exact hlt', trivial⟩
        by_cases hk : k = .fin
        · subst hk
          exact CodeC.of_run (fr := fr (.row of2 cap2 L) sl m .fin s want (i : Int) [t, Dec.l]) Eok (a_fin sl m s want i of2 cap2 L) he (show 1 ≤ 4 by omega) z1 (.inr ⟨by simp, rfl, m, .fin, s, want, hI, rfl⟩)
        · obtain ⟨hw1, hw2⟩ := hI.p.wd
          have hv : vS sl m = getW m.w (cellIx c 4 sl) := by unfold vS; rw [hI.cc]
          have hd : ∀ p ∈ ld sl m want of2 L i, p := pcs_of ⟨decide_eq_true (by omega), by omega, by omega, by rw [addN_eq]; omega, by rw [jv_eq]; exact hlt', hI.ok, by rw [hv]; exact hw1, acc_ok hI.ok rfl, hw2, trivial⟩
          have hP := hI.poke hc (L.getD (jv of2 i) 0)
          obtain ⟨ds, hC⟩ := stepA sl m k s want i of2 cap2 L hd hP.ok hk
          refine CodeC.mono (show CodeC E 1 (bd fn lp) (fr (.row of2 cap2 L) sl m k s want (i : Int) []) _ from hC) (fun ex fr1 h => ?_)
          obtain ⟨rfl, rfl⟩ := h
          exact .inl ⟨rfl, (i + 1, (hStep (wT sl) (mI sl m of2 L i) k s).2.2, (hStep (wT sl) (mI sl m of2 L i) k s).1, (hStep (wT sl) (mI sl m of2 L i) k s).2.1, wI sl want of2 L i), by rw [w64_succ i (by omega)], ⟨hlt, hP.step hc s⟩, by simp only; omega⟩
    · exact CodeC.of_run (fr := fr ik sl m k s want (i : Int) [f]) Eok (hs_e sl ik m k s want i) (pcs_of ⟨decide_eq_false (by omega), trivial⟩) (show 1 ≤ 4 by omega) z1 (.inr ⟨by simp, rfl, m, k, s, want, hI, rfl⟩)
  rintro ex fr ⟨rfl, m, k, s, want, hI, rfl⟩
  have hmu : mu (getW m.w (cellIx c 4 sl)) k s ≤ 20 := by
    cases k with
    | lay => show (if _ = _ then 2 else 4 : Nat) ≤ 20; split <;> omega
    | num => show (4 : Nat) ≤ 20; omega
    | look => show (3 : Nat) ≤ 20; omega
    | set => show (1 : Nat) ≤ 20; omega
    | fin => show (0 : Nat) ≤ 20; omega
  obtain ⟨r1, r2⟩ := SI.run hc 20 0 k s m hI hmu
  have e4 : getW (MR sl k s m).w (cellIx (MR sl k s m).c 4 sl) = want := by
    rw [r2.cc]
    exact r2.p.2.2.symm
  have e6 : (getW (mLd (MR sl k s m) 4 sl).w (cellIx (MR sl k s m).c 6 sl) == 7) = true := by
    rw [r2.cc]
    exact beq_iff_eq.2 r2.p.1
  refine KC.of_exec (fr := frM ik sl m k s want [Dec.l, Dec.l, t]) Eok (hs_out sl ik m k s want) (pcs_of ⟨⟨hI.ok, rfl, rfl, r1⟩, r2.ok, beq_iff_eq.2 e4, acc_ok r2.ok rfl, trivial⟩) (show 1 ≤ 4 by omega) z1 ?_
  rw [e6]
  refine KC.done ?_
  cases ik with
  | nil => exact ⟨by simp, [.bool true], [], [0], 1, by kernel_rfl, by simp, by kernel_rfl, rfl, z1⟩
  | row of2 cap2 L => exact ⟨by simp, [.bool true], [], [0], 1, by kernel_rfl, by simp, by kernel_rfl, rfl, z1⟩
open Dec in
theorem not_right (c : Cfg) (sl : Int) (ik : Ik) : told (doCall E39b 20 fid (args c sl (ik.sv 0)) ⟨[], 1, []⟩ ([t] ++ List.replicate 15 Dec.l)) = some (.bool true, [0 ≤ c.len, 8 * c.len ≤ 281474976710656, c.len ≤ 9223372036854775807, (c.len == 0) = true]) := by cases ik <;> kernel_rfl
theorem walk (c : Cfg) (sl : Int) (v : Value) (L : List Int) (w : World) (_ : (Lit.int .i64 sl).wf = true) (hl : RowIn .i64 w v L) :
    Calls Try.prog fid #[c.v, .int .i64 sl, v] w fun e w1 => e = .returned (.bool true) ∧ Below w.heap.size w w1 := by
  by_cases hr : c.Right
  · rcases hl with ⟨rfl, rfl⟩ | ⟨b, off, cap, rfl, hcell, _, hblk⟩
    · have hargs : VRL (fun k => k < 1) (fun _ => 0) (args c sl (Ik.nil.sv 0)) [c.v, .int .i64 sl, .slice none 0 0] := fun ρ' ha => by
        simp [args, Ik.sv, Cfg.ren_v, ren]
      exact calls_of_C (main c sl .nil hr) rfl none_isV hargs (HR_none _ 1)
    · have hargs : VRL (fun k => k < 1) (fun _ => b) (args c sl ((Ik.row off cap L).sv 0)) [c.v, .int .i64 sl, .slice (some ⟨b, off, none⟩) L.length cap] := fun ρ' ha => by
        have e0 : ρ' 0 = b := ha 0 (by omega)
        simp [args, Ik.sv, Cfg.ren_v, ren, renAddr, e0]
      exact calls_of_C (main c sl (.row off cap L) hr) rfl view_isV hargs (HR_row2 (ρ := fun _ => b) Nat.zero_lt_one hcell hblk)
  · obtain ⟨ik, b, hv⟩ : ∃ (ik : Ik) (b : Nat), ∀ ρ' : Nat → Nat, ρ' 0 = b → ren ρ' (ik.sv 0) = v := by
      rcases hl with ⟨rfl, rfl⟩ | ⟨b, off, cap, rfl, _, _⟩
      · exact ⟨.nil, 0, fun _ _ => rfl⟩
      · exact ⟨.row off cap L, b, fun ρ' h => by simp [Ik.sv, ren, renAddr, h]⟩
    have hargs : VRL (fun k => k < 1) (fun _ => b) (args c sl (ik.sv 0)) [c.v, .int .i64 sl, v] := fun ρ' ha => by
      have e0 : ρ' 0 = b := ha 0 (by omega)
      simp only [args, List.map_cons, List.map_nil, Cfg.ren_v, ren_int, hv ρ' e0]
    have hz : c.len = 0 := if_neg hr
    exact true_of_path E39bok (not_right c sl ik) (pcs_of ⟨by omega, by omega, by omega, by rw [hz]; rfl, trivial⟩) none_isV hargs (HR_none _ 1)
end Go.Proofs.Ytcpkieahnkfpoaa.HelpSidesDone
