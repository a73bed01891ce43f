/- What 'OpenLast' comes to, of any input: it returns true and changes nothing that was there. -/
import Derived.Test.YtjkohcdgjlaobaaLwOpenLastV
namespace Go.Proofs.Ytjkohcdgjlaobaa.OpenLastDone
open Go Go.Proofs Go.Proofs.Ytjkohcdgjlaobaa.Ev Go.Proofs.Ytjkohcdgjlaobaa.Ct
open Go.RowKit

open Dec in
theorem p_nr (c : Cfg) (g : Int) : told (doCall E50 20 fid (A c g) ⟨[], 0, []⟩ (t :: List.replicate 16 Dec.l)) = some (.bool true, [0 ≤ c.len, 8 * c.len ≤ 281474976710656, c.len ≤ 9223372036854775807, (c.len == 0) = true, nil0]) := by kernel_rfl
theorem z0' {tl : List Nat} : ∀ k, k < 0 → tl.getD k 0 = k := fun k hk => absurd hk (Nat.not_lt_zero k)
theorem nw_state {g : Int} (h0 : 0 ≤ g) (h1 : g ≤ 1073741824) : nuI (nwI 0 g) 27 3 = 0 ∧ nuI (nwI 0 g) 30 32 = g := by
  have e1 : nuI (nwI 0 g) 27 3 = nwI 0 g / 134217728 % 8 := rfl
  have e2 : nuI (nwI 0 g) 30 32 = nwI 0 g / 1073741824 % 4294967296 := rfl
  rw [e1, e2]
  unfold nwI
  omega
theorem nw_free {g l : Int} (h0 : 0 ≤ g) (h1 : g ≤ 1073741824) : freeI (nwI 0 g) l = decide (g ≤ l) := by
  obtain ⟨e1, e2⟩ := nw_state h0 h1
  unfold freeI
  rw [e1, e2]
  by_cases h : g ≤ l
  · rw [decide_eq_true h, decide_eq_false (show ¬ g > l by omega)]; rfl
  · rw [decide_eq_false h, decide_eq_true (show g > l by omega)]; rfl
structure Inv (c : Cfg) (g : Int) (i : Nat) (m : Mm) : Prop where
  ok : m.ok
  cc : m.c = c
  wf : WfW m.w
  zero : getW m.w 0 = 0
  st : ∀ j : Int, 0 ≤ j → j < i → sWd c m.w j = nwI 0 g
theorem inv0 {c : Cfg} (hr : c.Right) (g : Int) : Inv c g 0 (nwM c) := ⟨nwM_ok hr, rfl, zW_wf c, getW_zero c 0, fun j h0 h1 => by omega⟩
theorem inv1 {c : Cfg} (hr : c.Right) {g : Int} (h0 : 0 ≤ g) (h1 : g ≤ 1073741824) {i : Nat} (hi : (i : Int) < c.s) {m : Mm} (h : Inv c g i m) : Inv c g (i + 1) (mSt m 4 i (nwI 0 g)) := by
  have hw := nwI_rng (st := 0) (g := g) ⟨by omega, by omega, h0, h1⟩
  have ew : (mSt m 4 i (nwI 0 g)).w = setW m.w (cellIx c 4 i) (nwI 0 g) := by show setW m.w (cellIx m.c 4 i) _ = _; rw [h.cc]
  have i4 := ixs_rng hr (k := 4) (n := (i : Int)) (.inl rfl) (by omega) hi
  have hl : (m.w.length : Int) = c.len := by rw [h.ok.2, h.cc]
  refine ⟨acc_ok h.ok (setW_len _ _ _), h.cc, by rw [ew]; exact h.wf.setW _ hw.1 hw.2, ?_, fun j j0 j1 => ?_⟩
  · rw [ew, getW_set_ne (by omega)]
    exact h.zero
  · rw [ew]
    by_cases e : j = (i : Int)
    · subst e
      exact getW_set_same (by omega) (by omega)
    · show getW (setW m.w (cellIx c 4 i) (nwI 0 g)) (cellIx c 4 j) = nwI 0 g
      rw [getW_set_ne (by rw [ixs hr (.inl rfl) (show 0 ≤ (i : Int) by omega) hi, ixs hr (.inl rfl) j0 (by omega)]; omega)]
      exact h.st j j0 (by omega)
open Dec in
theorem main (c : Cfg) (g : Int) (hr : c.Right) : CallC Try.prog fid (A c g) ⟨[], 0, []⟩ (.bool true) ⟨[], 0, []⟩ := by
  by_cases h0 : g < 0
  · exact CallC.of_call E50nok (p_neg c g) (pcs_of ⟨hr, rfl, decide_eq_true h0, trivial⟩) rfl z0'
  by_cases h1 : g > 1073741824
  · exact CallC.of_call E50nok (p_big c g) (pcs_of ⟨hr, rfl, decide_eq_false h0, decide_eq_true h1, trivial⟩) rfl z0'
  have hs := sl_rng hr
  refine CallC.of_body (E := E50n) (ds := []) (fn := fn) 67 (by kernel_rfl) (by kernel_rfl) (by kernel_rfl) (by kernel_rfl) ?_
  refine KC.of_exec (fr := start c g [Dec.l, Dec.l, Dec.l, f, f]) E50nok (p_in c g) (pcs_of ⟨hr, rfl, decide_eq_false h0, decide_eq_false h1, trivial⟩) (Nat.le_refl _) z0' ?_
  refine KC.loop (m0 := 0) (ι := Nat × Mm) (fun x => fr c g x.2 (x.1 : Int) []) (fun x => (x.1 : Int) ≤ c.s ∧ Inv c g x.1 x.2) (fun x => c.s.toNat - x.1)
    (fun ex fr => ex = .exit 0 ∧ ∃ m, Inv c g c.s.toNat m ∧ fr = frX c g m []) (fun x hx => ?_) ?_ (0, nwM c) ⟨by simp only; omega, inv0 hr g⟩
  · obtain ⟨i, m⟩ := x
    obtain ⟨hi, hI⟩ := hx
    simp only at hi hI ⊢
    by_cases hlt : (i : Int) < c.s
    · exact CodeC.of_run (fr := fr c g m (i : Int) [t]) E50nok (p_go c g m i) (pcs_of ⟨decide_eq_true hlt, ⟨by omega, by omega, by omega, by omega⟩, hI.ok, trivial⟩) (Nat.zero_le _) z0' (.inl ⟨rfl, (i + 1, mSt m 4 i (nwI 0 g)), by rw [w64_succ i (by omega)], ⟨by simp only; omega, inv1 hr (by omega) (by omega) hlt hI⟩, by simp only; omega⟩)
    · have e : i = c.s.toNat := by omega
      subst e
      exact CodeC.of_run (fr := fr c g m _ [f]) E50nok (p_end c g m c.s.toNat) (pcs_of ⟨decide_eq_false hlt, trivial⟩) (Nat.zero_le _) z0' (.inr ⟨by simp, rfl, m, hI, rfl⟩)
  rintro ex fr ⟨rfl, m, hI, rfl⟩
  have hG : opGood op0 m := ⟨hI.ok, hI.wf, op0_good⟩
  have hR := opRun_good 100 0 _ _ hG
  have hst : ∀ j, 0 ≤ j → j < c.s → sWd c m.w j = nwI 0 g := fun j a b => hI.st j a (by omega)
  have hfin : (RR m).2.1.dn = true ∧ ((RR m).2.1.e == 0) = decide (g ≤ c.g) := by
    rcases alone hr (N := 100) hI.cc (by rw [hI.zero]; decide) (by omega) with ⟨hno, s', m', q, _, _⟩ | ⟨f', f0, f1, hf, _, m', q, _, _⟩
    · have := hno 0 (Int.le_refl _) (by omega)
      rw [hst 0 (Int.le_refl _) (by omega), nw_free (by omega) (by omega)] at this
      show (opRun 100 0 op0 m).2.1.dn = true ∧ ((opRun 100 0 op0 m).2.1.e == 0) = _
      rw [q, this]
      exact ⟨rfl, rfl⟩
    · rw [hst f' f0 f1, nw_free (by omega) (by omega)] at hf
      show (opRun 100 0 op0 m).2.1.dn = true ∧ ((opRun 100 0 op0 m).2.1.e == 0) = _
      rw [q, hf]
      exact ⟨rfl, rfl⟩
  have hb : (((RR m).2.1.e == 0) == decide (g ≤ c.g)) = true := by rw [hfin.2]; simp
  refine KC.of_exec (fr := frX c g m [Dec.l, t]) E50nok (p_out c g m) (pcs_of ⟨rfl, ⟨rfl, by decide, rfl, hG⟩, rfl, ⟨rfl, rfl, hR.2.2⟩, hfin.1, rfl, ⟨rfl, rfl, hR.2.2⟩, trivial⟩) (Nat.zero_le _) z0' ?_
  rw [hb]
  exact KC.done ⟨by simp, [.bool true], [], [], 0, by kernel_rfl, by simp, by kernel_rfl, rfl, z0'⟩
theorem walk (c : Cfg) (g : Int) (w : World) (_ : (Lit.int .i64 g).wf = true) : Calls Try.prog fid #[c.v, .int .i64 g] w fun e w1 => e = .returned (.bool true) ∧ Below w.heap.size w w1 := by
  by_cases hr : c.Right
  · exact calls_of_C (main c g hr) rfl none_isV (ρ := id) (fun ρ' _ => by simp [A, Cfg.ren_v, ren]) (HR_none _ 0)
  · have hz : c.len = 0 := if_neg hr
    exact true_nums E50ok (p_nr c g) (pcs_of ⟨by omega, by omega, by omega, by rw [hz]; rfl, rfl, trivial⟩) (fun ρ => by simp [A, Cfg.ren_v, ren])
end Go.Proofs.Ytjkohcdgjlaobaa.OpenLastDone
