/- What 'HelpTwo' comes to, of any input: it returns true and changes nothing that was there. The whole. -/
import Derived.Test.YtcpkieahnkfpoaaLwHelpTwoW
import Derived.Test.YtcpkieahnkfpoaaEvOpen4
namespace Go.Proofs.Ytcpkieahnkfpoaa.HelpTwoDone
open Go Go.Proofs Go.Proofs.Ytcpkieahnkfpoaa.Ev Go.Proofs.Ytcpkieahnkfpoaa.Ct
open Go.RowKit

open Dec in
theorem stepA (l : List Int) (off : Nat) (w : Int) {m : Mm} (o : Mm) (ka kb : Hk) (xa xb : Int) (b : Bool) (i of2 cap2 : Nat) (L : List Bool) (ho : m.ok) (hld : ∀ p ∈ ld of2 L i true, p) :
    CodeC E33 2 (bd fn lp1) (fr1 l off (.row of2 cap2 L) w m o ka xa kb xb b (i : Int) []) (fun ex fr => ex = .normal ∧ fr = fr1 l off (.row of2 cap2 L) w (hStep w m ka xa).2.2 o (hStep w m ka xa).1 (hStep w m ka xa).2.1 kb xb b (w64 ((i : Int) + 1)) []) := by
  cases ka with
  | num => exact CodeC.of_run (fr := fr1 l off (.row of2 cap2 L) w m o .num xa kb xb b (i : Int) ([t, t] ++ List.replicate 6 Dec.l)) E33ok (a_num l off w m o kb xa xb b i of2 cap2 L) (pcs_app hld (pcs_of ⟨ho, trivial⟩)) (show 2 ≤ 9 by omega) z2L ⟨rfl, rfl⟩
  | look =>
    by_cases h3 : stB (lookV w m) = 3
    · refine CodeC.of_run (fr := fr1 l off (.row of2 cap2 L) w m o .look xa kb xb b (i : Int) ([t, t] ++ [Dec.l, t])) E33ok (a_lkt l off w m o kb xa xb b i of2 cap2 L) (pcs_app hld (pcs_of ⟨ho, beq_iff_eq.2 h3, trivial⟩)) (show 2 ≤ 9 by omega) z2L ⟨rfl, ?_⟩
      unfold hStep
      simp only [if_pos h3]
    · refine CodeC.of_run (fr := fr1 l off (.row of2 cap2 L) w m o .look xa kb xb b (i : Int) ([t, t] ++ [Dec.l, f])) E33ok (a_lkf l off w m o kb xa xb b i of2 cap2 L) (pcs_app hld (pcs_of ⟨ho, beq_eq_false_iff_ne.2 h3, trivial⟩)) (show 2 ≤ 9 by omega) z2L ⟨rfl, ?_⟩
      unfold hStep
      simp only [if_neg h3]
  | lay =>
    by_cases h3 : dnS m 4 (pendB w) xa = true
    · refine CodeC.of_run (fr := fr1 l off (.row of2 cap2 L) w m o .lay xa kb xb b (i : Int) ([t, t] ++ [Dec.l, t])) E33ok (a_lyt l off w m o kb xa xb b i of2 cap2 L) (pcs_app hld (pcs_of ⟨ho, h3, trivial⟩)) (show 2 ≤ 9 by omega) z2L ⟨rfl, ?_⟩
      unfold hStep
      simp only [if_pos h3]
    · refine CodeC.of_run (fr := fr1 l off (.row of2 cap2 L) w m o .lay xa kb xb b (i : Int) ([t, t] ++ [Dec.l, f])) E33ok (a_lyf l off w m o kb xa xb b i of2 cap2 L) (pcs_app hld (pcs_of ⟨ho, Bool.not_eq_true _ ▸ h3, trivial⟩)) (show 2 ≤ 9 by omega) z2L ⟨rfl, ?_⟩
      unfold hStep
      simp only [if_neg h3]
  | set => exact CodeC.of_run (fr := fr1 l off (.row of2 cap2 L) w m o .set xa kb xb b (i : Int) ([t, t] ++ List.replicate 6 Dec.l)) E33ok (a_set l off w m o kb xa xb b i of2 cap2 L) (pcs_app hld (pcs_of ⟨ho, trivial⟩)) (show 2 ≤ 9 by omega) z2L ⟨rfl, rfl⟩
  | fin => exact CodeC.of_run (fr := fr1 l off (.row of2 cap2 L) w m o .fin xa kb xb b (i : Int) ([t, t] ++ List.replicate 6 Dec.l)) E33ok (a_fin l off w m o kb xa xb b i of2 cap2 L) (pcs_app hld (pcs_of trivial)) (show 2 ≤ 9 by omega) z2L ⟨rfl, rfl⟩
open Dec in
theorem stepB (l : List Int) (off : Nat) (w : Int) {m : Mm} (o : Mm) (ka kb : Hk) (xa xb : Int) (b : Bool) (i of2 cap2 : Nat) (L : List Bool) (ho : m.ok) (hld : ∀ p ∈ ld of2 L i false, p) :
    CodeC E33 2 (bd fn lp1) (fr1 l off (.row of2 cap2 L) w m o ka xa kb xb b (i : Int) []) (fun ex fr => ex = .normal ∧ fr = fr1 l off (.row of2 cap2 L) w (hStep w m kb xb).2.2 o ka xa (hStep w m kb xb).1 (hStep w m kb xb).2.1 b (w64 ((i : Int) + 1)) []) := by
  cases kb with
  | num => exact CodeC.of_run (fr := fr1 l off (.row of2 cap2 L) w m o ka xa .num xb b (i : Int) ([t, f] ++ List.replicate 6 Dec.l)) E33ok (b_num l off w m o ka xa xb b i of2 cap2 L) (pcs_app hld (pcs_of ⟨ho, trivial⟩)) (show 2 ≤ 9 by omega) z2L ⟨rfl, rfl⟩
  | look =>
    by_cases h3 : stB (lookV w m) = 3
    · refine CodeC.of_run (fr := fr1 l off (.row of2 cap2 L) w m o ka xa .look xb b (i : Int) ([t, f] ++ [Dec.l, t])) E33ok (b_lkt l off w m o ka xa xb b i of2 cap2 L) (pcs_app hld (pcs_of ⟨ho, beq_iff_eq.2 h3, trivial⟩)) (show 2 ≤ 9 by omega) z2L ⟨rfl, ?_⟩
      unfold hStep
      simp only [if_pos h3]
    · refine CodeC.of_run (fr := fr1 l off (.row of2 cap2 L) w m o ka xa .look xb b (i : Int) ([t, f] ++ [Dec.l, f])) E33ok (b_lkf l off w m o ka xa xb b i of2 cap2 L) (pcs_app hld (pcs_of ⟨ho, beq_eq_false_iff_ne.2 h3, trivial⟩)) (show 2 ≤ 9 by omega) z2L ⟨rfl, ?_⟩
      unfold hStep
      simp only [if_neg h3]
  | lay =>
    by_cases h3 : dnS m 4 (pendB w) xb = true
    · refine CodeC.of_run (fr := fr1 l off (.row of2 cap2 L) w m o ka xa .lay xb b (i : Int) ([t, f] ++ [Dec.l, t])) E33ok (b_lyt l off w m o ka xa xb b i of2 cap2 L) (pcs_app hld (pcs_of ⟨ho, h3, trivial⟩)) (show 2 ≤ 9 by omega) z2L ⟨rfl, ?_⟩
      unfold hStep
      simp only [if_pos h3]
    · refine CodeC.of_run (fr := fr1 l off (.row of2 cap2 L) w m o ka xa .lay xb b (i : Int) ([t, f] ++ [Dec.l, f])) E33ok (b_lyf l off w m o ka xa xb b i of2 cap2 L) (pcs_app hld (pcs_of ⟨ho, Bool.not_eq_true _ ▸ h3, trivial⟩)) (show 2 ≤ 9 by omega) z2L ⟨rfl, ?_⟩
      unfold hStep
      simp only [if_neg h3]
  | set => exact CodeC.of_run (fr := fr1 l off (.row of2 cap2 L) w m o ka xa .set xb b (i : Int) ([t, f] ++ List.replicate 6 Dec.l)) E33ok (b_set l off w m o ka xa xb b i of2 cap2 L) (pcs_app hld (pcs_of ⟨ho, trivial⟩)) (show 2 ≤ 9 by omega) z2L ⟨rfl, rfl⟩
  | fin => exact CodeC.of_run (fr := fr1 l off (.row of2 cap2 L) w m o ka xa .fin xb b (i : Int) ([t, f] ++ List.replicate 6 Dec.l)) E33ok (b_fin l off w m o ka xa xb b i of2 cap2 L) (pcs_app hld (pcs_of trivial)) (show 2 ≤ 9 by omega) z2L ⟨rfl, rfl⟩
open Dec in
/-- From the first loop to the end, whatever is kept true. -/
theorem whole (l : List Int) (off : Nat) (bk : Bk) (w : Int) (o : Mm) (b : Bool) (hbk : bk.len ≤ 100) (hl : l.length ≤ 66) (I : Mm → Hk → Int → Hk → Int → Prop) (hok : ∀ m ka xa kb xb, I m ka xa kb xb → m.ok)
    (ha : ∀ m ka xa kb xb, I m ka xa kb xb → I (hStep w m ka xa).2.2 (hStep w m ka xa).1 (hStep w m ka xa).2.1 kb xb) (hb : ∀ m ka xa kb xb, I m ka xa kb xb → I (hStep w m kb xb).2.2 ka xa (hStep w m kb xb).1 (hStep w m kb xb).2.1)
    (hfin : ∀ m ka xa kb xb, I m ka xa kb xb → K3 w ka xa m = .fin ∧ (M2 w ka xa m).ok ∧ K3 w kb xb (M2 w ka xa m) = .fin ∧ (M2 w kb xb (M2 w ka xa m)).ok ∧ o.ok ∧ K3 w (kd b) 0 o = .fin ∧ (M2 w (kd b) 0 o).ok ∧ (M2 w kb xb (M2 w ka xa m)).w = (M2 w (kd b) 0 o).w ∧ (M2 w (kd b) 0 o).w.length = l.length)
    (m : Mm) (ka : Hk) (xa : Int) (kb : Hk) (xb : Int) (hI : I m ka xa kb xb) : KC E33 2 .normal (.code (.loop (bd fn lp1)) :: K1) (fr1 l off bk w m o ka xa kb xb b 0 []) (Ev.Ends E33 fn 2 (.bool true) (bHp l off bk)) := by
  refine KC.loop (m0 := 2) (ι := Nat × Mm × Hk × Int × Hk × Int) (fun x => fr1 l off bk w x.2.1 o x.2.2.1 x.2.2.2.1 x.2.2.2.2.1 x.2.2.2.2.2 b (x.1 : Int) []) (fun x => x.1 ≤ bk.len ∧ I x.2.1 x.2.2.1 x.2.2.2.1 x.2.2.2.2.1 x.2.2.2.2.2) (fun x => bk.len - x.1)
    (fun ex fr => ex = .exit 0 ∧ ∃ m ka xa kb xb, I m ka xa kb xb ∧ fr = frM l off bk w m o ka xa kb xb b []) (fun x hx => ?_) ?_ (0, m, ka, xa, kb, xb) ⟨Nat.zero_le _, hI⟩
  · obtain ⟨i, m, ka, xa, kb, xb⟩ := x
    obtain ⟨hi, hI⟩ := hx
    simp only at hi hI ⊢
    by_cases hlt : i < bk.len
    · cases bk with
      | nil => exact absurd hlt (Nat.not_lt_zero _)
      | row of2 cap2 L =>
        have hlt' : i < L.length := hlt
        have hl100 : L.length ≤ 100 := hbk
        have hld : ∀ v, L.getD i false = v → ∀ p ∈ ld of2 L i v, p := fun v hv => pcs_of ⟨decide_eq_true (by omega), by omega, by omega, by rw [addN_eq]; omega, by rw [jv_eq]; exact hlt', by rw [jv_eq]; exact hv, trivial⟩
        cases hv : L.getD i false
        · refine (stepB l off w o ka kb xa xb b i of2 cap2 L (hok _ _ _ _ _ hI) (hld _ hv)).mono ?_
          rintro ex fr ⟨rfl, rfl⟩
          exact .inl ⟨rfl, (i + 1, (hStep w m kb xb).2.2, ka, xa, (hStep w m kb xb).1, (hStep w m kb xb).2.1), by rw [w64_succ i (by omega)], ⟨hlt, hb _ _ _ _ _ hI⟩, by simp only; omega⟩
        · refine (stepA l off w o ka kb xa xb b i of2 cap2 L (hok _ _ _ _ _ hI) (hld _ hv)).mono ?_
          rintro ex fr ⟨rfl, rfl⟩
          exact .inl ⟨rfl, (i + 1, (hStep w m ka xa).2.2, (hStep w m ka xa).1, (hStep w m ka xa).2.1, kb, xb), by rw [w64_succ i (by omega)], ⟨hlt, ha _ _ _ _ _ hI⟩, by simp only; omega⟩
    · exact CodeC.of_run (fr := fr1 l off bk w m o ka xa kb xb b (i : Int) [f]) E33ok (ht_1e l off bk w m o ka kb xa xb b i) (pcs_of ⟨decide_eq_false (by omega), trivial⟩) (show 2 ≤ 9 by omega) z2L (.inr ⟨by simp, rfl, m, ka, xa, kb, xb, hI, rfl⟩)
  rintro ex fr ⟨rfl, m, ka, xa, kb, xb, hI, rfl⟩
  obtain ⟨f1, f2, f3, f4, f5, f6, f7, f8, f9⟩ := hfin _ _ _ _ _ hI
  refine KC.of_exec E33ok (ht_12 l off bk w m o ka kb xa xb b) (pcs_of ⟨⟨hok _ _ _ _ _ hI, rfl, rfl, f1⟩, ⟨f2, rfl, rfl, f3⟩, ⟨f5, rfl, rfl, f6⟩, f4, f7, trivial⟩) (show 2 ≤ 9 by omega) z2L ?_
  have e1 : (M2 w kb xb (M2 w ka xa m)).N = l.length := by rw [f4.1, f8, f9]
  have e2 : (M2 w (kd b) 0 o).N = l.length := by rw [f7.1, f9]
  rw [e1, e2, f8]
  generalize S2 w ka xa m = sa
  generalize S2 w kb xb (M2 w ka xa m) = sb
  generalize S2 w (kd b) 0 o = sd
  generalize (M2 w (kd b) 0 o).w = wy at *
  refine KC.loop (m0 := 2) (ι := Nat) (fun i => fr2 l off bk w sa sb sd l.length l.length wy wy (i : Int) []) (fun i => i ≤ l.length) (fun i => l.length - i) (fun ex fr => ex = .exit 2 ∧ fr = frX l off bk w sa sb sd []) (fun i hi => ?_) ?_ 0 (Nat.zero_le _)
  · by_cases hlt : i < l.length
    · exact CodeC.of_run (fr := fr2 l off bk w sa sb sd l.length l.length wy wy (i : Int) [t, f]) E33ok (ht_2 l off bk w i sa sb sd wy wy) (pcs_of ⟨decide_eq_true (by omega), by omega, by omega, by omega, by omega, by omega, by omega, bne_self_eq_false _, trivial⟩) (show 2 ≤ 7 by omega) z2L (.inl ⟨rfl, i + 1, by rw [w64_succ i (by omega)], hlt, by omega⟩)
    · exact CodeC.of_run (fr := fr2 l off bk w sa sb sd l.length l.length wy wy (i : Int) [f]) E33ok (ht_2e l off bk w i sa sb sd wy wy) (pcs_of ⟨decide_eq_false (by omega), trivial⟩) (show 2 ≤ 7 by omega) z2L (.inr ⟨by simp, rfl, rfl⟩)
  rintro ex fr ⟨rfl, rfl⟩
  refine KC.of_exec (fr := frX l off bk w sa sb sd [Dec.l, Dec.l, Dec.l]) E33ok (ht_out l off bk w sa sb sd) (pcs_of trivial) (show 2 ≤ 5 by omega) z2L (KC.done ?_)
  cases bk with
  | nil => exact ⟨by simp, [.bool true], [], [0, 1], 2, by kernel_rfl, by simp, by kernel_rfl, rfl, z2L⟩
  | row of2 cap2 L => exact ⟨by simp, [.bool true], [], [0, 1], 2, by kernel_rfl, by simp, by kernel_rfl, rfl, z2L⟩
theorem big_orB (bk : Bk) : (∃ of2 cap2 L, bk = .row of2 cap2 L ∧ 100 < L.length) ∨ ((∀ p ∈ bk.big, p) ∧ bk.len ≤ 100) := by
  cases bk with
  | nil => exact .inr ⟨pcs_of trivial, Nat.zero_le _⟩
  | row of2 cap2 L =>
    by_cases h : L.length ≤ 100
    · exact .inr ⟨pcs_of ⟨decide_eq_false (by omega), trivial⟩, h⟩
    · exact .inl ⟨of2, cap2, L, rfl, by omega⟩
theorem hMu_50 (c : Cfg) (l : List Int) (w : Int) (k : Hk) (s : Int) : hMu c l w k s ≤ 50 := by
  cases k with
  | num => show 6 ≤ 50; omega
  | look => exact Nat.le_trans (hMu_look c l w s) (by omega)
  | lay => show (if s = S0 c l w then 2 else 3) ≤ 50; split <;> omega
  | set => show 1 ≤ 50; omega
  | fin => show 0 ≤ 50; omega
open Dec in
theorem main (c : Cfg) (l : List Int) (off cap : Nat) (bk : Bk) (w : Int) (hr : c.Right) (hlen : (l.length : Int) = c.len) (hwf : WfW l) (hw : Wd w) :
    CallC Try.prog fid (args c (some ⟨0, off, none⟩) l.length cap w (bk.sv 1)) (bHp l off bk) (.bool true) (bHp l off bk) := by
  have hq : q0 c l off := ⟨hr, hlen, rfl, rfl⟩
  have hcl := Cfg.len_in hr
  have o0 := newM_ok hlen
  have he0 : ∀ p ∈ e0 l off, p := pcs_of ⟨beq_eq_false_iff_ne.2 (by omega), by omega, by omega, by rw [addN_eq]; omega, by rw [jv_eq]; omega, trivial⟩
  by_cases hp : pendB w ≥ 0
  · have bp : decide (pendB w ≥ 0) = true := decide_eq_true hp
    rcases big_orB bk with ⟨of2, cap2, L, rfl, hbig⟩ | ⟨hbig, hbl⟩
    · exact CallC.of_call E33ok (long_t c l off cap w of2 cap2 L) (pcs_of ⟨hq, hq, bp, bp, bp, decide_eq_true (by omega), trivial⟩) rfl z2L
    by_cases h0 : l.getD 0 0 = w
    · have hM : Mix c l w := ⟨hr, hlen, hwf, hw, hp, by rw [ix_tally hr, getW_in (by omega)]; exact h0⟩
      refine CallC.of_body (E := E33) (ds := []) (fn := fn) 143 (by kernel_rfl) (by kernel_rfl) (by kernel_rfl) (by kernel_rfl) ?_
      refine KC.of_exec (fr := start c l off cap bk w [t, t, t, Dec.l, Dec.l, Dec.l, Dec.l, dsB bk, f, f]) E33ok (ht_t c l off cap bk w) (pcs_app (pcs_of ⟨hq, hq, bp, bp, bp, trivial⟩) (pcs_app hbig (pcs_app he0 (pcs_of ⟨by rw [jv_eq, h0]; exact bne_self_eq_false _, trivial⟩)))) (Nat.le_refl _) z2L ?_
      have hg0 : GInv c l w (N0 c l w) (S0 c l w) w := ⟨.inl rfl, .inl rfl, .inl rfl⟩
      have hg1 : GInv c l w (N1 c l w) (S1 c l w) (setB w) := ⟨.inr rfl, .inr rfl, .inr rfl⟩
      refine whole l off bk w (newM c l) true hbl (by omega) (fun m ka xa kb xb => m.ok ∧ m.c = c ∧ ∃ n s t, m.w = tri c l w n s t ∧ GInv c l w n s t ∧ HInv c l w ka xa n s t ∧ HInv c l w kb xb n s t) (fun m ka xa kb xb h => h.1) (fun m ka xa kb xb h => ?_) (fun m ka xa kb xb h => ?_) (fun m ka xa kb xb h => ?_) (newM c l) .num 0 .num 0 ⟨o0, rfl, N0 c l w, S0 c l w, w, (tri_start hM).symm, hg0, trivial, trivial⟩
      · obtain ⟨h1, h2, n, s, t, h3, h4, h5, h6⟩ := h
        obtain ⟨n', s', t', r1, r2, r3, r4, r5, r6⟩ := mix_step hM h2 h3 h4 h5
        obtain ⟨q1, q2⟩ := hStep_ok w h1 ka xa
        exact ⟨q1, q2.trans h2, n', s', t', r1, r2, r3, h6.up r4 r5 r6⟩
      · obtain ⟨h1, h2, n, s, t, h3, h4, h5, h6⟩ := h
        obtain ⟨n', s', t', r1, r2, r3, r4, r5, r6⟩ := mix_step hM h2 h3 h4 h6
        obtain ⟨q1, q2⟩ := hStep_ok w h1 kb xb
        exact ⟨q1, q2.trans h2, n', s', t', r1, r2, h5.up r4 r5 r6, r3⟩
      · obtain ⟨h1, h2, n, s, t, h3, h4, h5, h6⟩ := h
        obtain ⟨j, x', m', a1, a2, a3, a4⟩ := mix_run hM 50 0 ka xa m n s t h1 h2 h3 h4 h5 (hMu_50 _ _ _ _ _)
        obtain ⟨j', x'', m'', b1, b2, b3, b4⟩ := mix_run hM 50 0 kb xb m' _ _ _ a2 a3 a4 hg1 (h6.up (fun _ => rfl) (fun _ => rfl) (fun _ => rfl)) (hMu_50 _ _ _ _ _)
        obtain ⟨j3, x3, m3, d1, d2, d3, d4⟩ := mix_run hM 50 0 .num 0 (newM c l) _ _ _ o0 rfl (tri_start hM).symm hg0 trivial (hMu_50 _ _ _ _ _)
        have ea : M2 w ka xa m = m' := by unfold M2; rw [a1]
        have eb : M2 w kb xb m' = m'' := by unfold M2; rw [b1]
        have ed : M2 w (kd true) 0 (newM c l) = m3 := by
          show (hRun w 50 0 .num 0 (newM c l)).2.2.2 = m3
          rw [d1]
        refine ⟨by unfold K3; rw [a1], by rw [ea]; exact a2, by rw [ea]; unfold K3; rw [b1], by rw [ea, eb]; exact b2, o0, ?_, by rw [ed]; exact d2, by rw [ea, eb, ed, b4, d4], by rw [ed, d4, tri_len]⟩
        show (hRun w 50 0 .num 0 (newM c l)).2.1 = .fin
        rw [d1]
    · exact CallC.of_call E33ok (hd_t c l off cap bk w) (pcs_app (pcs_of ⟨hq, hq, bp, bp, bp, trivial⟩) (pcs_app hbig (pcs_app he0 (pcs_of ⟨by rw [jv_eq]; exact bne_iff_ne.2 h0, trivial⟩)))) rfl z2L
  · have bp : decide (pendB w ≥ 0) = false := decide_eq_false hp
    rcases big_orB bk with ⟨of2, cap2, L, rfl, hbig⟩ | ⟨hbig, hbl⟩
    · exact CallC.of_call E33ok (long_f c l off cap w of2 cap2 L) (pcs_of ⟨hq, hq, bp, bp, bp, decide_eq_true (by omega), trivial⟩) rfl z2L
    by_cases h0 : l.getD 0 0 = w
    · refine CallC.of_body (E := E33) (ds := []) (fn := fn) 143 (by kernel_rfl) (by kernel_rfl) (by kernel_rfl) (by kernel_rfl) ?_
      refine KC.of_exec (fr := start c l off cap bk w [f, f, f, Dec.l, Dec.l, Dec.l, Dec.l, dsB bk, f, f]) E33ok (ht_f c l off cap bk w) (pcs_app (pcs_of ⟨hq, hq, bp, bp, bp, trivial⟩) (pcs_app hbig (pcs_app he0 (pcs_of ⟨by rw [jv_eq, h0]; exact bne_self_eq_false _, trivial⟩)))) (Nat.le_refl _) z2L ?_
      refine whole l off bk w (newM c l) false hbl (by omega) (fun m ka xa kb xb => m = newM c l ∧ ka = .fin ∧ kb = .fin) (fun m ka xa kb xb h => by rw [h.1]; exact o0) (fun m ka xa kb xb h => ?_) (fun m ka xa kb xb h => ?_) (fun m ka xa kb xb h => ?_) (newM c l) .fin 0 .fin 0 ⟨rfl, rfl, rfl⟩
      · obtain ⟨rfl, rfl, rfl⟩ := h
        exact ⟨rfl, rfl, rfl⟩
      · obtain ⟨rfl, rfl, rfl⟩ := h
        exact ⟨rfl, rfl, rfl⟩
      · obtain ⟨rfl, rfl, rfl⟩ := h
        exact ⟨rfl, o0, rfl, o0, o0, rfl, o0, rfl, rfl⟩
    · exact CallC.of_call E33ok (hd_f c l off cap bk w) (pcs_app (pcs_of ⟨hq, hq, bp, bp, bp, trivial⟩) (pcs_app hbig (pcs_app he0 (pcs_of ⟨by rw [jv_eq]; exact bne_iff_ne.2 h0, trivial⟩)))) rfl z2L

theorem walk (c : Cfg) (v : Value) (l : List Int) (x : Int) (sv : Value) (L : List Bool) (w : World) (hl : RowIn .u64 w v l) (hx : (Lit.int .u64 x).wf = true) (hs : RowB w sv L) :
    Calls Try.prog fid #[c.v, v, .agg ⟨[.int .u64 x, sv]⟩] w fun e w1 => e = .returned (.bool true) ∧ Below w.heap.size w w1 := by
  have hw : Wd x := bounds_u64 hx
  by_cases h : c.Right ∧ (l.length : Int) = c.len
  · obtain ⟨hr, hlen⟩ := h
    have hwf := row_wf hl
    have hcl := Cfg.len_in hr
    rcases hl with ⟨_, rfl⟩ | ⟨b, off, cap, rfl, hcell, _, hblk⟩
    · simp at hlen
      omega
    · rcases hs with ⟨rfl, rfl⟩ | ⟨b2, of2, cap2, rfl, hcell2, hblk2⟩
      · have hargs : VRL (fun k => k < 2) (fun _ => b) (args c (some ⟨0, off, none⟩) l.length cap x (Bk.nil.sv 1)) [c.v, .slice (some ⟨b, off, none⟩) l.length cap, .agg ⟨[.int .u64 x, .slice none 0 0]⟩] := fun ρ' ha => by
          have e0 : ρ' 0 = b := ha 0 (by omega)
          simp [args, zv, Bk.sv, Cfg.ren_v, ren, renA, renL, renAddr, e0]
        exact calls_of_C (main c l off cap .nil x hr hlen hwf hw) rfl view_isV hargs (HR_row2 (ρ := fun _ => b) Nat.zero_lt_two hcell hblk)
      · let ρ : Nat → Nat := fun k => if k = 0 then b else b2
        have hargs : VRL (fun k => k < 2) ρ (args c (some ⟨0, off, none⟩) l.length cap x ((Bk.row of2 cap2 L).sv 1)) [c.v, .slice (some ⟨b, off, none⟩) l.length cap, .agg ⟨[.int .u64 x, .slice (some ⟨b2, of2, none⟩) L.length cap2]⟩] := fun ρ' ha => by
          have e0 : ρ' 0 = b := ha 0 (by omega)
          have e1 : ρ' 1 = b2 := ha 1 (by omega)
          simp [args, zv, Bk.sv, Cfg.ren_v, ren, renA, renL, renAddr, e0, e1]
        exact calls_of_C (main c l off cap (.row of2 cap2 L) x hr hlen hwf hw) rfl (two_isV rfl rfl) hargs (HR_two rfl rfl (sat_ints hcell hblk) (sat_bools hcell2 hblk2))
  · obtain ⟨a, cap, hv⟩ := row_any hl
    obtain ⟨bk, b2, hv2⟩ : ∃ (bk : Bk) (b2 : Nat), ∀ ρ' : Nat → Nat, ρ' 1 = b2 → ren ρ' (bk.sv 1) = sv := by
      rcases hs with ⟨rfl, rfl⟩ | ⟨b, off, cap, rfl, _, _⟩
      · exact ⟨.nil, 0, fun _ _ => rfl⟩
      · exact ⟨.row off cap L, b, fun ρ' h => by simp [Bk.sv, ren, renAddr, h]⟩
    let ρ : Nat → Nat := fun k => if k = 0 then (a.map Addr.block).getD 0 else b2
    have hargs : VRL (fun k => k < 2) ρ (args c (anyB 0 a) l.length cap x (bk.sv 1)) [c.v, v, .agg ⟨[.int .u64 x, sv]⟩] := fun ρ' ha => by
      have e0 : ρ' 0 = (a.map Addr.block).getD 0 := ha 0 (by omega)
      have e1 : ρ' 1 = b2 := ha 1 (by omega)
      rw [hv]
      simp only [args, zv, List.map_cons, List.map_nil, Cfg.ren_v, anyB_rel 0 a ρ' _ _ e0, ren_agg, ren_int, hv2 ρ' e1]
    have br : ¬ c.Right → (!rightB c) = true := fun hr => by simp [rightB, hr]
    by_cases hr : c.Right
    · have hlen : (l.length : Int) ≠ c.len := fun e => h ⟨hr, e⟩
      have b1 : (!rightB c) = false := by simp [rightB, hr]
      have b2 : ((l.length : Int) != c.len) = true := bne_iff_ne.2 hlen
      by_cases hp : pendB x ≥ 0
      · exact true_of_path E32ok (nl_t c cap bk x (anyB 0 a) l.length) (pcs_of ⟨b1, hr, b2, b1, hr, b2, decide_eq_true hp, decide_eq_true hp, decide_eq_true hp, trivial⟩) none_isV hargs (HR_none _ 2)
      · exact true_of_path E32ok (nl_f c cap bk x (anyB 0 a) l.length) (pcs_of ⟨b1, hr, b2, b1, hr, b2, decide_eq_false hp, decide_eq_false hp, decide_eq_false hp, trivial⟩) none_isV hargs (HR_none _ 2)
    · by_cases hp : pendB x ≥ 0
      · exact true_of_path E32ok (nr_t c cap bk x (anyB 0 a) l.length) (pcs_of ⟨br hr, br hr, decide_eq_true hp, decide_eq_true hp, decide_eq_true hp, trivial⟩) none_isV hargs (HR_none _ 2)
      · exact true_of_path E32ok (nr_f c cap bk x (anyB 0 a) l.length) (pcs_of ⟨br hr, br hr, decide_eq_false hp, decide_eq_false hp, decide_eq_false hp, trivial⟩) none_isV hargs (HR_none _ 2)
end Go.Proofs.Ytcpkieahnkfpoaa.HelpTwoDone
