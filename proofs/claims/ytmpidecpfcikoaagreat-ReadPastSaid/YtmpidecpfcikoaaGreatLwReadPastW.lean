/- What 'ReadPast' comes to, of any input. -/
import Derived.Test.YtmpidecpfcikoaaGreatLwReadPastV
namespace Go.Proofs.YtmpidecpfcikoaaGreat.ReadPastDone
open Go Go.Proofs Go.Proofs.YtmpidecpfcikoaaGreat.Ev Go.Proofs.YtmpidecpfcikoaaGreat.Ct
open Go.RowKit

theorem z2 {tl : List Nat} : ∀ k, k < 2 → (0 :: 1 :: tl).getD k 0 = k := fun k hk => by
  match k, hk with
  | 0, _ => rfl
  | 1, _ => rfl
theorem z2r {m : Nat} : ∀ k, k < 2 → (rng 0 (m + 2)).getD k 0 = k := fun k hk => by
  match k, hk with
  | 0, _ => rfl
  | 1, _ => rfl
theorem pK_ok {c : Cfg} {N : Nat} {a b : List Int} {kd x : Int} (hr : c.Right) (ha : (a.length : Int) = c.len) (hb : b.length = a.length) (hN : N = a.length) (h0 : 0 ≤ cellIx c kd x) (h1 : cellIx c kd x < c.len) : ∀ p ∈ pK c N a b kd x, p := by
  have := Cfg.len_in hr
  exact pcs_of ⟨by omega, rfl, by omega, by omega, hr, h0, by omega, by rw [iI_eq]; omega, trivial⟩
/-- One that is let go. -/
theorem let_go {c : Cfg} (hr : c.Right) {w : List Int} (hl : (w.length : Int) = c.len) {N : Nat} (hN : N = w.length) (hw : WfW w) {sl n j st num : Int} (s0 : 0 ≤ sl) (s1 : sl < c.s) (j0 : 0 ≤ j) (j1 : j < c.s) (hne : j ≠ sl) (hn : snWd c w sl = n) (hnum : Wd num) (hg : (st = 5) ∨ (st = 4 ∧ num = n ∧ n > 0)) (hall : ∀ x, 0 ≤ x → x < j → x ≠ sl → gnW c n w x = true) :
    (wj2 c N w st num j).length = w.length ∧ WfW (wj2 c N w st num j) ∧ snWd c (wj2 c N w st num j) sl = n ∧ ∀ x, 0 ≤ x → x < j + 1 → x ≠ sl → gnW c n (wj2 c N w st num j) x = true := by
  have b4 := ix_slot_rng hr (k := 4) (.inl rfl) j0 j1
  have b6 := ix_slot_rng hr (k := 6) (.inr (.inr (.inl rfl))) j0 j1
  have e1 : wj1 c N w st j = putS c w j (mvI (sWd c w j) st false) := by
    unfold wj1 putS
    rw [hN, List.take_length, iI_eq, sI_eq b4.1, setW_in b4.1]
    rfl
  have l1 : (putS c w j (mvI (sWd c w j) st false)).length = w.length := putS_len _ _ _ _
  have e2 : wj2 c N w st num j = setW (putS c w j (mvI (sWd c w j) st false)) (cellIx c 6 j) num := by
    unfold wj2
    rw [e1, hN, ← l1, List.take_length, iI_eq, setW_in b6.1]
  have hs : Wd (sWd c w j) := hw.sWd j
  have hm : Wd (mvI (sWd c w j) st false) := mvI_rng hs st false
  rw [e2]
  have i45 : cellIx c 4 j ≠ cellIx c 5 sl := ix_ne hr (.inl rfl) (.inr (.inl rfl)) j0 j1 s0 s1 (.inl (by decide))
  have i65 : cellIx c 6 j ≠ cellIx c 5 sl := ix_ne hr (.inr (.inr (.inl rfl))) (.inr (.inl rfl)) j0 j1 s0 s1 (.inl (by decide))
  have i64 : ∀ x, 0 ≤ x → x < c.s → cellIx c 6 j ≠ cellIx c 4 x := fun x x0 x1 => ix_ne hr (.inr (.inr (.inl rfl))) (.inl rfl) j0 j1 x0 x1 (.inl (by decide))
  refine ⟨by rw [setW_len, l1], (hw.putS j hm).setW _ hnum.1 hnum.2, ?_, fun x x0 x1 xn => ?_⟩
  · show getW (setW _ _ _) _ = n
    rw [getW_set_ne i65]
    exact (getW_set_ne i45).trans hn
  · by_cases hx : x = j
    · subst hx
      have g1 : sWd c (setW (putS c w x (mvI (sWd c w x) st false)) (cellIx c 6 x) num) x = mvI (sWd c w x) st false := (getW_set_ne (i64 x j0 j1)).trans (sWd_put_same hr j0 j1 hl _)
      have g2 : nWd c (setW (putS c w x (mvI (sWd c w x) st false)) (cellIx c 6 x) num) x = num := getW_set_same b6.1 (by rw [l1]; omega)
      unfold gnW goneI
      rw [g1, g2, mv_nu]
      rcases hg with rfl | ⟨rfl, rfl, hp⟩
      · rfl
      · show pastI num num = true
        unfold pastI
        rw [decide_eq_true (show num ≠ 0 by omega), decide_eq_true (Int.le_refl num)]
        rfl
    · have x2 : x < c.s := by omega
      have g1 : sWd c (setW (putS c w j (mvI (sWd c w j) st false)) (cellIx c 6 j) num) x = sWd c w x := (getW_set_ne (i64 x x0 x2)).trans (sWd_put_ne hr j0 j1 x0 hx w _)
      have g2 : nWd c (setW (putS c w j (mvI (sWd c w j) st false)) (cellIx c 6 j) num) x = nWd c w x := (getW_set_ne (ix_ne hr (.inr (.inr (.inl rfl))) (.inr (.inr (.inl rfl))) j0 j1 x0 x2 (.inr (Ne.symm hx)))).trans (nWd_put hr j0 j1 x0 w _)
      unfold gnW
      rw [g1, g2]
      exact hall x x0 (by omega) xn
/-- A read alone where all the others are gone. -/
theorem past_want {c : Cfg} (hr : c.Right) {w : List Int} {h key : Int} (k0 : ¬ key < 0) (k1 : ¬ key ≥ c.k) (hall : ∀ x, 0 ≤ x → x < c.s → x ≠ tkS h → gnW c (snWd c w (tkS h)) w x = true) :
    (rdWant c w h key).2 = brI c w h ∧ ∀ p, cellIx c 8 key ≠ p → getW (rdWant c w h key).1 p = getW w p := by
  by_cases hb : brI c w h = 0
  · obtain ⟨ho, hf, e⟩ := want_go k0 k1 hb
    obtain ⟨i0, i1, i2⟩ := ofOk_rng ho
    obtain ⟨f1, f2, f3⟩ := flt_ok hf
    rw [e, hb]
    generalize tkS h = i at *
    have h8 : ∀ x, 0 ≤ x → cellIx c 8 key ≠ cellIx c 4 x := fun x x0 => (ix48_ne hr x0 (by omega) (by omega)).symm
    have h86 : ∀ x, 0 ≤ x → x < c.s → cellIx c 8 key ≠ cellIx c 6 x := fun x x0 x1 => (ix_nek hr (.inr (.inr (.inl rfl))) x0 x1 (by omega) (by omega)).symm
    have ha : acc c i 0 (snWd c w i) (setW w (cellIx c 8 key) (withI (kWd c w key) 0 i)) (othL (kWd c w key) 1 i) = (setW w (cellIx c 8 key) (withI (kWd c w key) 0 i), [], true) := acc_gone _ _ fun x hx => by
      obtain ⟨x0, _, xn, _⟩ := oth_mem hx
      by_cases x1 : x < c.s
      · have g1 : sWd c (setW w (cellIx c 8 key) (withI (kWd c w key) 0 i)) x = sWd c w x := getW_set_ne (h8 x x0)
        have g2 : nWd c (setW w (cellIx c 8 key) (withI (kWd c w key) 0 i)) x = nWd c w x := getW_set_ne (h86 x x0 x1)
        rw [g1, g2]
        exact hall x x0 x1 xn
      · exact gone_over (by omega)
    unfold rdEnd
    rw [ha]
    have es : mvI (wths 0 [] (sWd c w i)) 2 false = sWd c w i := mv_self f2 f3
    simp only [if_true]
    rw [es]
    have ei : sWd c (setW w (cellIx c 8 key) (withI (kWd c w key) 0 i)) i = sWd c w i := getW_set_ne (h8 i i0)
    refine ⟨trivial, fun p hp => ?_⟩
    rw [← ei, putS_self]
    exact getW_set_ne hp
  · rw [want_bar k0 k1 hb]
    exact ⟨rfl, fun _ _ => rfl⟩
open Dec in
theorem second (c : Cfg) (l w : List Int) (off N : Nat) (h key st : Int) (pk : Pk) (hr : c.Right) (hl : (w.length : Int) = c.len) (hN : N = w.length) (hw : WfW w) (hh : Wd h) (k0 : ¬ key < 0) (k1 : ¬ key ≥ c.k) (hall : ∀ x, 0 ≤ x → x < c.s → x ≠ tkS h → gnW c (snWd c w (tkS h)) w x = true) :
    KC Eap 2 (.exit 0) K (frX1 c l off h key st pk N w []) (Ev.Ends Eap fn 2 (.bool true) (plHp l off pk)) := by
  have hcl := Cfg.len_in hr
  have m0 : (newM c w).ok := newM_ok hl
  have g0 : rdGood (rdOf c h key) (newM c w) := ⟨m0, hw, rdOf_good c hh key⟩
  have g1 : rdGood (R c w h key).2.1 (R c w h key).2.2 := rdRun_good 300 0 _ _ g0
  obtain ⟨a1, a2, a3, a4, a5⟩ := rd_run hr (m := newM c w) rfl m0 h key (N := 300) (by omega) 0
  have a1 : (R c w h key).2.1.dn = true := a1
  obtain ⟨b1, b2⟩ := past_want hr k0 k1 hall
  have a4 : (R c w h key).2.1.no = brI c w h := a4.trans b1
  have a5 : ∀ p, cellIx c 8 key ≠ p → getW (R c w h key).2.2.w p = getW w p := fun p hp => by rw [show (R c w h key).2.2.w = (rdWant c w h key).1 from a5]; exact b2 p hp
  have hN' : (R c w h key).2.2.N = w.length := by
    have e1 := g1.1.1
    have e2 := g1.1.2
    rw [show (R c w h key).2.2.c = c from a2] at e2
    omega
  have hWl : (R c w h key).2.2.w.length = w.length := by rw [← hN']; exact g1.1.1.symm
  have hm : ∀ p ∈ mQ c N w h key, p := pcs_of ⟨⟨hr, hl, hN⟩, isNew_ok c hh key, rdP_ok _ _, qRun_ok 300 (by decide) g0, rfl, hN, ⟨hr, hl, hw, hh⟩, g1.1, trivial⟩
  refine KC.of_exec (fr := frX1 c l off h key st pk N w [Dec.l, Dec.l]) Eapok (p_mid c l w off N h key st pk) hm (show 2 ≤ 6 by omega) z2 ?_
  have go : (R c w h key).2.1.good := g1.2.2
  generalize (R c w h key).2.1 = o at *
  generalize (R c w h key).2.2.w = W at *
  generalize (R c w h key).2.2.N = N' at *
  show KC Eap 2 .normal _ (fr2 c l off h key st pk N w o (brI c w h) N' W ((0 : Nat) : Int) []) _
  refine KC.loop (m0 := 2) (ι := Nat) (fun x => fr2 c l off h key st pk N w o (brI c w h) N' W (x : Int) []) (fun x => x ≤ N') (fun x => N' - x)
    (fun ex fr => ex = .exit 2 ∧ fr = frX2 c l off h key st pk w o (brI c w h) []) (fun k hk => ?_) ?_ 0 (Nat.zero_le _)
  · by_cases hlt : k < N'
    · have eV : ∀ V : List Int, vA V k = getW V (k : Int) := fun V => by
        rw [getW_in (Int.natCast_nonneg k)]
        show V.getD (addN 0 (mulN k 1)) 0 = V.getD k 0
        rw [addN_eq, mulN_eq]
        congr 1
        omega
      have hq : ∀ b, (getW W (k : Int) != getW w (k : Int)) = b → ∀ p ∈ h2 c N N' w W k b, p := fun b hb => pcs_of ⟨decide_eq_true (by omega), ⟨hr, by omega, by omega⟩, by omega, by omega, by rw [addN_eq, mulN_eq]; omega, by omega, by omega, by rw [addN_eq, mulN_eq]; omega, by rw [eV, eV]; exact hb, trivial⟩
      have es : w64 ((k : Int) + 1) = ((k + 1 : Nat) : Int) := by rw [w64_in (by omega) (by omega)]; omega
      by_cases he : getW W (k : Int) = getW w (k : Int)
      · exact CodeC.of_run (fr := fr2 c l off h key st pk N w o (brI c w h) N' W (k : Int) [t, f, Dec.l]) Eapok (p_eq c l w W off N N' h key st (brI c w h) pk o k) (hq false (by rw [he]; exact bne_self_eq_false _)) (show 2 ≤ 20 by omega) z2r (.inl ⟨rfl, k + 1, by rw [es], hlt, by omega⟩)
      · have hk8 : cellIx c 8 key = (k : Int) := Decidable.byContradiction fun hc => he (a5 _ hc)
        obtain ⟨h1, h2⟩ := at_cellIx hk8 (Int.natCast_nonneg k)
        exact CodeC.of_run (fr := fr2 c l off h key st pk N w o (brI c w h) N' W (k : Int) [t, t, f]) Eapok (p_key c l w W off N N' h key st (brI c w h) pk o k) (pcs_app (hq true (bne_iff_ne.2 he)) (pcs_of ⟨by rw [h1, h2]; simp [andL], trivial⟩)) (show 2 ≤ 20 by omega) z2r (.inl ⟨rfl, k + 1, by rw [es], hlt, by omega⟩)
    · have e : k = N' := by omega
      subst e
      exact CodeC.of_run (fr := fr2 c l off h key st pk N w o (brI c w h) k W (k : Int) [f]) Eapok (p_end2 c l w W off N k h key st (brI c w h) pk o k) (pcs_of ⟨decide_eq_false (by omega), trivial⟩) (show 2 ≤ 20 by omega) z2r (.inr ⟨by simp, rfl, rfl⟩)
  rintro ex fr ⟨rfl, rfl⟩
  refine KC.of_exec (fr := frX2 c l off h key st pk w o (brI c w h) [Dec.l, t]) Eapok (p_out c l w off h key st (brI c w h) pk o) (pcs_of ⟨rdP_ok _ _, qAsk_ok go, a1, rdP_ok _ _, qAsk_ok go, trivial⟩) (show 2 ≤ 19 by omega) z2 (KC.done ?_)
  rw [a4, beq_self_eq_true]
  cases pk <;> exact ⟨by simp, [.bool true], [], [0, 1], 2, by kernel_rfl, by simp, by kernel_rfl, rfl, z2⟩
open Dec in
theorem main (c : Cfg) (l : List Int) (off cap : Nat) (pk : Pk) (h key st : Int) (hr : c.Right) (hlen : (l.length : Int) = c.len) (hwf : WfW l) (hh : Wd h) :
    CallC Tryz.prog fid (A c l off cap pk h key st) (plHp l off pk) (.bool true) (plHp l off pk) := by
  have hcl := Cfg.len_in hr
  have hrB : (!rightB c) = false := by simp [rightB, hr]
  have hlB : ((l.length : Int) != c.len) = false := by rw [hlen]; exact bne_self_eq_false _
  cases ho : ofOk h c.s with
  | false => exact CallC.of_call Eapok (p_no c l off cap h key st pk) (pcs_of ⟨hh, hrB, hr, hlB, by rw [ho]; rfl, trivial⟩) rfl z2
  | true =>
  have hH : ∀ p ∈ qH c l h, p := pcs_of ⟨hh, hrB, hr, hlB, by rw [ho]; rfl, trivial⟩
  by_cases k0 : key < 0
  · exact CallC.of_call Eapok (p_k0 c l off cap h key st pk) (pcs_app hH (pcs_of ⟨decide_eq_true k0, trivial⟩)) rfl z2
  by_cases k1 : key ≥ c.k
  · exact CallC.of_call Eapok (p_k1 c l off cap h key st pk) (pcs_app hH (pcs_of ⟨decide_eq_false k0, decide_eq_true k1, trivial⟩)) rfl z2
  obtain ⟨i0, i1, i2⟩ := ofOk_rng ho
  have eS : brS c h = tkS h := if_pos ho
  have b5 := ix_slot_rng hr (k := 5) (.inr (.inl rfl)) i0 i1
  have hn : 0 ≤ n0 c l h ∧ n0 c l h < 1000 := by
    unfold n0
    rw [eS, sI_eq b5.1, wt, List.take_length, Int.tmod_eq_emod_of_nonneg (hwf.getW _).1]
    omega
  have ew : wt0 c l h = setW l (cellIx c 5 (tkS h)) (n0 c l h) := by
    unfold wt0 wt
    rw [List.take_length, List.take_length, eS, iI_eq, setW_in b5.1]
  have hI : ∀ p ∈ qI c l off h key, p := by
    unfold qI
    rw [eS, wt, List.take_length, List.take_length]
    exact pcs_app hH (pcs_app (pcs_of ⟨decide_eq_false k0, decide_eq_false k1, Nat.le_refl _, rfl, by omega, by omega, trivial⟩) (pcs_app (aQ_ok hr hlen rfl b5.1 b5.2) (List.forall_mem_cons.2 ⟨by decide, pK_ok hr hlen rfl rfl b5.1 b5.2⟩)))
  refine CallC.of_body (E := Eap) (ds := []) (fn := fn) 169 (by kernel_rfl) (by kernel_rfl) (by kernel_rfl) (by kernel_rfl) ?_
  refine KC.of_exec (fr := start c l off cap pk h key st [f, f, f, f, f]) Eapok (p_in c l off cap h key st pk) hI (Nat.le_refl _) z2 ?_
  rw [ew, eS]
  generalize hN : l.length = N at *
  generalize n0 c l h = n at *
  have hw0 : WfW (setW l (cellIx c 5 (tkS h)) n) := hwf.setW _ hn.1 (by omega)
  have hsn : snWd c (setW l (cellIx c 5 (tkS h)) n) (tkS h) = n := getW_set_same b5.1 (by omega)
  have hl0 : (setW l (cellIx c 5 (tkS h)) n).length = N := by rw [setW_len]; exact hN
  generalize setW l (cellIx c 5 (tkS h)) n = w0 at *
  generalize hsle : tkS h = sl at *
  show KC Eap 2 .normal _ (fr1 c l off h key st pk N w0 sl n ((0 : Nat) : Int) []) _
  refine KC.loop (m0 := 2) (ι := Nat × List Int) (fun x => fr1 c l off h key st pk N x.2 sl n (x.1 : Int) []) (fun x => (x.1 : Int) ≤ c.s ∧ x.2.length = N ∧ WfW x.2 ∧ snWd c x.2 sl = n ∧ ∀ y, 0 ≤ y → y < (x.1 : Int) → y ≠ sl → gnW c n x.2 y = true) (fun x => c.s.toNat - x.1)
    (fun ex fr => ex = .exit 0 ∧ ∃ w, fr = frX1 c l off h key st pk N w [] ∧ w.length = N ∧ WfW w ∧ snWd c w sl = n ∧ ∀ y, 0 ≤ y → y < c.s → y ≠ sl → gnW c n w y = true) (fun x hx => ?_) ?_ (0, w0) ⟨by simp only; omega, hl0, hw0, hsn, fun y y0 y1 => absurd y1 (by simp only; omega)⟩
  · obtain ⟨j, w⟩ := x
    obtain ⟨hj, hl, hw, hs, hall⟩ := hx
    simp only at hj hl hw hs hall ⊢
    by_cases hlt : (j : Int) < c.s
    · have hd : decide ((j : Int) < c.s) = true := decide_eq_true hlt
      have hs12 : c.s ≤ 12 := hr.2.2.2.1
      have es : w64 ((j : Int) + 1) = ((j + 1 : Nat) : Int) := by rw [w64_in (by omega) (by omega)]; omega
      by_cases hsl : (j : Int) = sl
      · refine CodeC.of_run (fr := fr1 c l off h key st pk N w sl n (j : Int) [t, t]) Eapok (p_same c l w off N h key st sl n pk j) (pcs_of ⟨hd, by rw [hsl]; exact beq_self_eq_true _, trivial⟩) (show 2 ≤ 6 by omega) z2 (.inl ⟨rfl, (j + 1, w), by rw [es], ⟨by simp only; omega, hl, hw, hs, fun y y0 y1 yn => hall y y0 (by simp only at y1; omega) yn⟩, by simp only; omega⟩)
      · have hlw : (w.length : Int) = c.len := by omega
        have b4 := ix_slot_rng hr (k := 4) (.inl rfl) (Int.natCast_nonneg j) hlt
        have b6 := ix_slot_rng hr (k := 6) (.inr (.inr (.inl rfl))) (Int.natCast_nonneg j) hlt
        have hr' : ∀ st', ∀ p ∈ rQ c N w st' j, p := fun st' => by
          have hl1 : (wj1 c N w st' j).length = w.length := by
            unfold wj1
            rw [List.length_set, List.length_take]
            omega
          exact pcs_app (aQ_ok hr hlw hl.symm b4.1 b4.2) (List.forall_mem_cons.2 ⟨by rw [sI_eq b4.1]; exact hw.sWd _, pcs_app (pK_ok hr hlw (by rw [List.length_take]; omega) hl.symm b4.1 b4.2) (pK_ok hr (by rw [hl1]; exact hlw) (by rw [List.length_take]; omega) (by omega) b6.1 b6.2)⟩)
        have hq : ∀ b, (Int.tmod (j : Int) 2 == 0) = b → ∀ p ∈ hQ c sl j b, p := fun b hb => pcs_of ⟨hd, beq_false_of_ne hsl, by decide, hb, trivial⟩
        have nx : ∀ st' num, Wd num → ((st' = 5) ∨ (st' = 4 ∧ num = n ∧ n > 0)) → (wj2 c N w st' num j).length = N ∧ WfW (wj2 c N w st' num j) ∧ snWd c (wj2 c N w st' num j) sl = n ∧ ∀ y, 0 ≤ y → y < ((j + 1 : Nat) : Int) → y ≠ sl → gnW c n (wj2 c N w st' num j) y = true := fun st' num hnum hg => by
          obtain ⟨c1, c2, c3, c4⟩ := let_go hr hlw hl.symm hw i0 i1 (Int.natCast_nonneg j) hlt hsl hs hnum hg hall
          exact ⟨by omega, c2, c3, fun y y0 y1 yn => c4 y y0 (by omega) yn⟩
        cases hp : (Int.tmod (j : Int) 2 == 0) with
        | true =>
          by_cases hn0 : n > 0
          · exact CodeC.of_run (fr := fr1 c l off h key st pk N w sl n (j : Int) [t, f, t, t]) Eapok (p_even c l w off N h key st sl n pk j) (pcs_app (hq true hp) (List.forall_mem_cons.2 ⟨decide_eq_true hn0, hr' 4⟩)) (show 2 ≤ 6 by omega) z2 (.inl ⟨rfl, (j + 1, wj2 c N w 4 n j), by rw [es], ⟨by simp only; omega, nx 4 n ⟨hn.1, by omega⟩ (.inr ⟨rfl, rfl, hn0⟩)⟩, by simp only; omega⟩)
          · exact CodeC.of_run (fr := fr1 c l off h key st pk N w sl n (j : Int) [t, f, t, f]) Eapok (p_even0 c l w off N h key st sl n pk j) (pcs_app (hq true hp) (List.forall_mem_cons.2 ⟨decide_eq_false hn0, hr' 5⟩)) (show 2 ≤ 6 by omega) z2 (.inl ⟨rfl, (j + 1, wj2 c N w 5 0 j), by rw [es], ⟨by simp only; omega, nx 5 0 ⟨by decide, by decide⟩ (.inl rfl)⟩, by simp only; omega⟩)
        | false => exact CodeC.of_run (fr := fr1 c l off h key st pk N w sl n (j : Int) [t, f, f, Dec.l]) Eapok (p_odd c l w off N h key st sl n pk j) (pcs_app (hq false hp) (hr' 5)) (show 2 ≤ 6 by omega) z2 (.inl ⟨rfl, (j + 1, wj2 c N w 5 0 j), by rw [es], ⟨by simp only; omega, nx 5 0 ⟨by decide, by decide⟩ (.inl rfl)⟩, by simp only; omega⟩)
    · exact CodeC.of_run (fr := fr1 c l off h key st pk N w sl n (j : Int) [f]) Eapok (p_end c l w off N h key st sl n pk j) (pcs_of ⟨decide_eq_false hlt, trivial⟩) (show 2 ≤ 6 by omega) z2 (.inr ⟨by simp, rfl, w, rfl, hl, hw, hs, fun y y0 y1 yn => hall y y0 (by omega) yn⟩)
  rintro ex fr ⟨rfl, w, rfl, hl, hw, hs, hall⟩
  exact second c l w off N h key st pk hr (by omega) hl.symm hw hh k0 k1 (by rw [hsle, hs]; exact hall)
theorem walk (c : Cfg) (v : Value) (l : List Int) (zs : List Int) (sv : Value) (rows : List (List Int)) (w : World) (hl : RowIn .u64 w v l) (hz : zs.length = 3) (hk : ∀ i, i < 3 → (Lit.int (([.u64, .i64, .i64] : List IntKind).getD i .i64) (zs.getD i 0)).wf = true) (hs : RowR pkK w sv rows) :
    Calls Tryz.prog fid #[c.v, v, .agg ⟨rowV [.u64, .i64, .i64] zs ++ [sv]⟩] w fun e w1 => e = .returned (.bool true) ∧ Below w.heap.size w w1 := by
  obtain ⟨h, key, st, rfl⟩ : ∃ a b d, zs = [a, b, d] := by
    match zs, hz with
    | [a, b, d], _ => exact ⟨a, b, d, rfl⟩
  have hh : Wd h := bounds_u64 (hk 0 (by decide))
  exact law_play2 (E' := Eap) Er4ok rfl hl hs (fun hr hlen off cap pk _ => ⟨_, main c l off cap pk h key st hr hlen (row_wf hl) hh⟩)
    (fun hr a m cap pk => ⟨_, _, p_nr c cap h key st pk a m, pcs_of ⟨hh, by simp [rightB, hr], trivial⟩⟩)
    (fun hr a m cap pk hlen => ⟨_, _, p_nl c cap h key st pk a m, pcs_of ⟨hh, by simp [rightB, hr], hr, by simpa using hlen, trivial⟩⟩)
end Go.Proofs.YtmpidecpfcikoaaGreat.ReadPastDone
