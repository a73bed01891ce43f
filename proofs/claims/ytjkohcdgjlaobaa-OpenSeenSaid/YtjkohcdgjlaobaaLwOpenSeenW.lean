/- What 'OpenSeen' comes to, of any input: it returns true and changes nothing that was there. -/
import Derived.Test.YtjkohcdgjlaobaaLwOpenSeenV
namespace Go.Proofs.Ytjkohcdgjlaobaa.OpenSeenDone
open Go Go.Proofs Go.Proofs.Ytjkohcdgjlaobaa.Ev Go.Proofs.Ytjkohcdgjlaobaa.Ct
open Go.RowKit

theorem free0 {c : Cfg} (hr : c.Right) : freeI 0 c.g = true := by
  unfold Cfg.Right at hr
  have e1 : nuI 0 27 3 = 0 := rfl
  have e2 : nuI 0 30 32 = 0 := rfl
  unfold freeI
  rw [e1, e2, decide_eq_false (by omega)]
  rfl
/-- Where it is, and what lies there. -/
def P (c : Cfg) (q now : Int) (w : List Int) (o : Ct.Op) : Prop :=
  (o = ⟨0, 0, 0, 0, 0, 0, 0, 0, 0, 0⟩ ∧ getW w (cellIx c 4 0) = 0) ∨ (o = ⟨1, 0, 0, 0, 0, 0, 0, 0, 0, 0⟩ ∧ getW w (cellIx c 4 0) = 0) ∨ o = ⟨2, 0, 0, 0, 0, 0, 0, 0, 0, 0⟩ ∨
  ∃ x, q ≤ x ∧ x ≤ now ∧ (o = ⟨4, 0, 0, 0, x, 0, 0, 0, 0, 0⟩ ∨ (o = ⟨5, 0, 0, 0, x, 0, 0, 0, 0, 0⟩ ∧ getW w (cellIx c 5 0) = x) ∨ (o = ⟨7, 0, 0, 0, x, 0, 0, 0, mkT 0 (nuI 0 30 32), x⟩ ∧ getW w (cellIx c 5 0) = x))
structure SI (c : Cfg) (q now : Int) (m : Mm) (o : Ct.Op) : Prop where
  good : opGood o m
  cc : m.c = c
  tally : getW m.w 0 = 16 * now
  lo : 0 ≤ q ∧ q ≤ now
  hi : now ≤ 1051
  p : P c q now m.w o
theorem ixes {c : Cfg} (hr : c.Right) : cellIx c 1 0 = 0 ∧ cellIx c 4 0 = 2 + c.t ∧ cellIx c 5 0 = 3 + c.t ∧ 1 ≤ c.t ∧ 3 + c.t < c.len := by
  have hs := sl_rng hr
  have a := ixs hr (k := 4) (n := 0) (.inl rfl) (by omega) (by omega)
  have b := ixs hr (k := 5) (n := 0) (.inr (.inl rfl)) (by omega) (by omega)
  have i5 := ixs_rng hr (k := 5) (n := 0) (.inr (.inl rfl)) (by omega) (by omega)
  refine ⟨ix_tally hr, by omega, by omega, hr.1, by omega⟩
theorem tl_w {now : Int} (h0 : 0 ≤ now) (h1 : now ≤ 1051) : u64 (16 * now) = 16 * now ∧ u64 (now + 1) = now + 1 := ⟨w_u64 (by omega) (by omega), w_u64 (by omega) (by omega)⟩
theorem start0 {c : Cfg} (hr : c.Right) {q : Int} (h0 : 0 ≤ q) (h1 : q ≤ 1000) : SI c q q (mSt (nwM c) 1 0 (u64 (16 * q))) op0 := by
  obtain ⟨i1, i4, i5, ht, hl⟩ := ixes hr
  have hz := zW_len hr
  have e : (mSt (nwM c) 1 0 (u64 (16 * q))).w = setW (zW c) 0 (16 * q) := by
    show setW (zW c) (cellIx c 1 0) _ = _
    rw [i1, (tl_w h0 (by omega)).1]
  refine ⟨⟨acc_ok (nwM_ok hr) (setW_len _ _ _), ?_, op0_good⟩, rfl, ?_, ⟨h0, Int.le_refl _⟩, by omega, .inl ⟨rfl, ?_⟩⟩
  · rw [e]
    exact (zW_wf c).setW 0 (by omega) (by omega)
  · rw [e]
    exact getW_set_same (by omega) (by omega)
  · rw [e, getW_set_ne (by omega)]
    exact getW_zero c _
theorem poke {c : Cfg} (hr : c.Right) {q now : Int} {m : Mm} {o : Ct.Op} (h : SI c q now m o) (hi : now ≤ 1050) : SI c q (u64 (now + 1)) (Pm m now) o := by
  obtain ⟨i1, i4, i5, ht, hl⟩ := ixes hr
  obtain ⟨hg, hc, h1, h2, h3, h4⟩ := h
  have l0 : (m.w.length : Int) = c.len := by rw [hg.1.2, hc]
  have n1 : u64 (now + 1) = now + 1 := (tl_w (by omega) (by omega)).2
  have e : (Pm m now).w = setW m.w 0 (16 * (now + 1)) := by
    show setW m.w (cellIx m.c 1 0) _ = _
    rw [hc, i1, n1, (tl_w (now := now + 1) (by omega) (by omega)).1]
  refine ⟨⟨acc_ok hg.1 (setW_len _ _ _), ?_, hg.2.2⟩, hc, ?_, ⟨h2.1, by omega⟩, by omega, ?_⟩
  · rw [e]
    exact hg.2.1.setW 0 (by omega) (by omega)
  · rw [e, n1]
    exact getW_set_same (by omega) (by omega)
  · rw [e, n1]
    have g4 : getW (setW m.w 0 (16 * (now + 1))) (cellIx c 4 0) = getW m.w (cellIx c 4 0) := getW_set_ne (by omega)
    have g5 : getW (setW m.w 0 (16 * (now + 1))) (cellIx c 5 0) = getW m.w (cellIx c 5 0) := getW_set_ne (by omega)
    unfold P at h4 ⊢
    rw [g4, g5]
    rcases h4 with h | h | h | ⟨x, x0, x1, h⟩
    · exact .inl h
    · exact .inr (.inl h)
    · exact .inr (.inr (.inl h))
    · exact .inr (.inr (.inr ⟨x, x0, by omega, h⟩))
theorem step {c : Cfg} (hr : c.Right) {q now : Int} {m : Mm} {o : Ct.Op} (h : SI c q now m o) (hd : o.dn = false) : SI c q now (opMe o m) (opSt o m) ∧ o.ph < (opSt o m).ph := by
  obtain ⟨i1, i4, i5, ht, hl⟩ := ixes hr
  obtain ⟨hg, hc, h1, h2, h3, h4⟩ := h
  have l0 : (m.w.length : Int) = c.len := by rw [hg.1.2, hc]
  have hG := opStep_good hg
  have hcc : (opMe o m).c = c := (opMe_ok hg).2.1.trans hc
  suffices H : getW (opMe o m).w 0 = 16 * now ∧ P c q now (opMe o m).w (opSt o m) ∧ o.ph < (opSt o m).ph from ⟨⟨hG, hcc, H.1, h2, h3, H.2.1⟩, H.2.2⟩
  clear hG hcc
  rcases h4 with ⟨rfl, h⟩ | ⟨rfl, h⟩ | rfl | ⟨x, x0, x1, rfl | ⟨rfl, h⟩ | ⟨rfl, h⟩⟩
  · have ev : vSt m 0 = 0 := by show getW m.w (cellIx m.c 4 0) = 0; rw [hc]; exact h
    have e1 : opSt ⟨0, 0, 0, 0, 0, 0, 0, 0, 0, 0⟩ m = ⟨1, 0, 0, 0, 0, 0, 0, 0, 0, 0⟩ := by
      simp only [opSt, ev, hc, free0 hr, if_true]
    rw [e1]
    exact ⟨h1, .inr (.inl ⟨rfl, h⟩), by show 0 < 1; omega⟩
  · have d : dnS m 4 0 0 = true := by
      show (decide (0 ≤ cellIx m.c 4 0) && (getW m.w (cellIx m.c 4 0) == 0)) = true
      rw [hc, h, decide_eq_true (by omega)]
      rfl
    have e1 : opSt ⟨1, 0, 0, 0, 0, 0, 0, 0, 0, 0⟩ m = ⟨2, 0, 0, 0, 0, 0, 0, 0, 0, 0⟩ := by simp only [opSt, d, if_true]
    have e2 : (opMe ⟨1, 0, 0, 0, 0, 0, 0, 0, 0, 0⟩ m).w = setW m.w (cellIx c 4 0) (mvI 0 1 false) := by
      show swpW m.w (cellIx m.c 4 0) 0 _ = _
      rw [hc]
      exact if_pos h
    rw [e1, e2]
    exact ⟨by rw [getW_set_ne (by omega)]; exact h1, .inr (.inr (.inl rfl)), by show 1 < 2; omega⟩
  · have ev : vTl m = 16 * now := by show getW m.w (cellIx m.c 1 0) = _; rw [hc, i1]; exact h1
    have d : decide (pendB (16 * now) ≥ 0) = false := decide_eq_false (by rw [pendB_eq (by omega) (by omega)]; omega)
    have s1 : seqB (16 * now) = now := by rw [seqB_eq]; omega
    have e1 : opSt ⟨2, 0, 0, 0, 0, 0, 0, 0, 0, 0⟩ m = ⟨4, 0, 0, 0, now, 0, 0, 0, 0, 0⟩ := by
      simp only [opSt, ev, d, s1]
      rfl
    rw [e1]
    exact ⟨h1, .inr (.inr (.inr ⟨now, h2.2, Int.le_refl _, .inl rfl⟩)), by show 2 < 4; omega⟩
  · have e2 : (opMe ⟨4, 0, 0, 0, x, 0, 0, 0, 0, 0⟩ m).w = setW m.w (cellIx c 5 0) x := by show setW m.w (cellIx m.c 5 0) x = _; rw [hc]
    rw [e2]
    exact ⟨by rw [getW_set_ne (by omega)]; exact h1, .inr (.inr (.inr ⟨x, x0, x1, .inr (.inl ⟨rfl, getW_set_same (by omega) (by omega)⟩)⟩)), by show 4 < 5; omega⟩
  · have e2 : (opMe ⟨5, 0, 0, 0, x, 0, 0, 0, 0, 0⟩ m).w = setW m.w (cellIx c 4 0) (mvI 0 2 false) := by show setW m.w (cellIx m.c 4 0) _ = _; rw [hc]
    rw [e2]
    exact ⟨by rw [getW_set_ne (by omega)]; exact h1, .inr (.inr (.inr ⟨x, x0, x1, .inr (.inr ⟨rfl, by rw [getW_set_ne (by omega)]; exact h⟩)⟩)), by show 5 < 7; omega⟩
  · cases hd
theorem runs {c : Cfg} (hr : c.Right) {q now : Int} : ∀ (n k : Nat) (o : Ct.Op) (m : Mm), SI c q now m o → 7 ≤ o.ph + n → (opRun n k o m).2.1.dn = true ∧ SI c q now (opRun n k o m).2.2 (opRun n k o m).2.1
  | 0, k, o, m, h, hn => ⟨decide_eq_true (show 6 ≤ o.ph by omega), h⟩
  | n + 1, k, o, m, h, hn => by
    cases hd : o.dn with
    | true =>
      rw [opRun_dn hd]
      exact ⟨hd, h⟩
    | false =>
      rw [opRun_go hd]
      obtain ⟨h1, h2⟩ := step hr h hd
      exact runs hr n (k + 1) _ _ h1 (by omega)
theorem big_or (ik : Ik) : (∃ of2 cap2 L, ik = .row of2 cap2 L ∧ 50 < (L.length : Int)) ∨ ((∀ p ∈ big ik, p) ∧ (ik.len : Int) ≤ 50) := by
  cases ik with
  | nil => exact .inr ⟨pcs_of trivial, by simp [Ik.len]⟩
  | row of2 cap2 L =>
    by_cases h : (L.length : Int) > 50
    · exact .inl ⟨of2, cap2, L, rfl, h⟩
    · exact .inr ⟨pcs_of ⟨decide_eq_false h, trivial⟩, by show (L.length : Int) ≤ 50; omega⟩
theorem z1 {tl : List Nat} : ∀ k, k < 1 → (0 :: tl).getD k 0 = k := fun k hk => by
  match k, hk with
  | 0, _ => rfl
open Dec in
theorem main (c : Cfg) (q : Int) (ik : Ik) (hr : c.Right) (q0 : 0 ≤ q) : CallC Try.prog fid (A c q ik) (iHp ik) (.bool true) (iHp ik) := by
  rcases big_or ik with ⟨of2, cap2, L, rfl, hL⟩ | ⟨hb, hlen⟩
  · exact CallC.of_call E50nok (p_long c q of2 cap2 L) (pcs_of ⟨hr, rfl, decide_eq_true hL, trivial⟩) rfl z1
  by_cases hq : q > 1000
  · refine CallC.of_call E50nok (p_bigq c q ik) (pcs_app (pcs_of ⟨hr, rfl, trivial⟩) (pcs_app hb (pcs_of ⟨decide_eq_true hq, trivial⟩))) rfl ?_
    cases ik <;> exact z1
  refine CallC.of_body (E := E50n) (ds := []) (fn := fn) 104 (by kernel_rfl) (by kernel_rfl) (by kernel_rfl) (by kernel_rfl) ?_
  refine KC.of_exec (fr := start c q ik [Dec.l, Dec.l, Dec.l, dsB ik, f]) E50nok (p_in c q ik) (pcs_app (pcs_of ⟨hr, rfl, trivial⟩) (pcs_app hb (pcs_of ⟨decide_eq_false hq, nwM_ok hr, trivial⟩))) (Nat.le_refl _) z1 ?_
  refine KC.loop (m0 := 1) (ι := Nat × Mm × Ct.Op × Int) (fun x => fr ik q x.2.1 x.2.2.1 x.2.2.2 (x.1 : Int) []) (fun x => x.1 ≤ ik.len ∧ SI c q x.2.2.2 x.2.1 x.2.2.1 ∧ x.2.2.2 ≤ q + x.1) (fun x => ik.len - x.1)
    (fun ex fr => ex = .exit 0 ∧ ∃ m o now, SI c q now m o ∧ fr = frX ik q m o now []) (fun x hx => ?_) ?_ (0, mSt (nwM c) 1 0 (u64 (16 * q)), op0, q) ⟨Nat.zero_le _, start0 hr q0 (by omega), by simp only; omega⟩
  · obtain ⟨i, m, o, now⟩ := x
    obtain ⟨hi, hI, hn⟩ := hx
    simp only at hi hI hn ⊢
    by_cases hlt : i < ik.len
    · cases ik with
      | nil => exact absurd hlt (Nat.not_lt_zero i)
      | row of2 cap2 L =>
        have hlt' : i < L.length := hlt
        have hlen' : (L.length : Int) ≤ 50 := hlen
        have hd : ∀ p ∈ rd of2 i L o, p := pcs_of ⟨decide_eq_true (by omega), by omega, by omega, by rw [addN_eq]; omega, by rw [jv_eq]; exact hlt', rfl, ⟨rfl, rfl, hI.good.2.2⟩, trivial⟩
        cases hdn : o.dn with
        | true => exact CodeC.of_run (fr := fr (.row of2 cap2 L) q m o now (i : Int) [t, t]) E50nok (p_brk q m o now i of2 cap2 L) (pcs_app hd (pcs_of ⟨hdn, trivial⟩)) (show 1 ≤ 6 by omega) z1 (.inr ⟨by simp, rfl, m, o, now, hI, rfl⟩)
        | false =>
          cases ha : (andI (L.getD (jv of2 i) 0) == 1) with
          | true =>
            have hP := poke hr hI (by omega)
            have hS := (step hr hP hdn).1
            have n1 : u64 (now + 1) = now + 1 := (tl_w (by have := hI.lo; omega) hI.hi).2
            exact CodeC.of_run (fr := fr (.row of2 cap2 L) q m o now (i : Int) [t, f, t]) E50nok (p_go1 q m o now i of2 cap2 L) (pcs_app hd (pcs_of ⟨hdn, ha, hI.good.1, rfl, ⟨rfl, rfl, hP.good⟩, trivial⟩)) (show 1 ≤ 6 by omega) z1
              (.inl ⟨rfl, (i + 1, opMe o (Pm m now), opSt o (Pm m now), u64 (now + 1)), by rw [w64_succ i (by omega)], ⟨hlt, hS, by rw [n1]; simp only; omega⟩, by simp only; omega⟩)
          | false =>
            have hS := (step hr hI hdn).1
            exact CodeC.of_run (fr := fr (.row of2 cap2 L) q m o now (i : Int) [t, f, f]) E50nok (p_go0 q m o now i of2 cap2 L) (pcs_app hd (pcs_of ⟨hdn, ha, rfl, ⟨rfl, rfl, hI.good⟩, trivial⟩)) (show 1 ≤ 6 by omega) z1
              (.inl ⟨rfl, (i + 1, opMe o m, opSt o m, now), by rw [w64_succ i (by omega)], ⟨hlt, hS, by simp only; omega⟩, by simp only; omega⟩)
    · exact CodeC.of_run (fr := fr ik q m o now (i : Int) [f]) E50nok (p_end q ik m o now i) (pcs_of ⟨decide_eq_false (by omega), trivial⟩) (show 1 ≤ 6 by omega) z1 (.inr ⟨by simp, rfl, m, o, now, hI, rfl⟩)
  rintro ex fr ⟨rfl, m, o, now, hI, rfl⟩
  obtain ⟨rd1, rS⟩ := runs hr 100 0 o m hI (by omega)
  have hp : (RR o m).2.1.e = 0 ∧ q ≤ (RR o m).2.1.n ∧ (RR o m).2.1.n ≤ now ∧ getW (RR o m).2.2.w (cellIx c 5 0) = (RR o m).2.1.n := by
    show (opRun 100 0 o m).2.1.e = 0 ∧ q ≤ (opRun 100 0 o m).2.1.n ∧ (opRun 100 0 o m).2.1.n ≤ now ∧ getW (opRun 100 0 o m).2.2.w (cellIx c 5 0) = (opRun 100 0 o m).2.1.n
    have := rS.p
    generalize (opRun 100 0 o m).2.1 = oo at this rd1 ⊢
    rcases this with ⟨rfl, _⟩ | ⟨rfl, _⟩ | rfl | ⟨x, x0, x1, rfl | ⟨rfl, _⟩ | ⟨rfl, h⟩⟩
    · cases rd1
    · cases rd1
    · cases rd1
    · cases rd1
    · cases rd1
    · exact ⟨rfl, x0, x1, h⟩
  have rc : (RR o m).2.2.c = c := rS.cc
  refine KC.of_exec (fr := frX ik q m o now [Dec.l, t, t, t, t]) E50nok (p_out q ik m o now) (pcs_of ⟨rfl, ⟨rfl, by decide, rfl, hI.good⟩, rfl, ⟨rfl, rfl, rS.good.2.2⟩, rfl, ⟨rfl, rfl, rS.good.2.2⟩, rd1, by rw [hp.1]; rfl, decide_eq_true hp.2.1, decide_eq_true hp.2.2.1, rS.good.1, trivial⟩) (show 1 ≤ 6 by omega) z1 ?_
  rw [rc, hp.2.2.2, beq_self_eq_true]
  refine KC.done ?_
  cases ik with
  | nil => exact ⟨by simp, [.bool true], [], [0], 1, by kernel_rfl, by simp, by kernel_rfl, rfl, z1⟩
  | row of2 cap2 L => exact ⟨by simp, [.bool true], [], [0], 1, by kernel_rfl, by simp, by kernel_rfl, rfl, z1⟩
theorem walk (c : Cfg) (q : Int) (v : Value) (L : List Int) (w : World) (hq : (Lit.int .u64 q).wf = true) (hl : RowIn .i64 w v L) :
    Calls Try.prog fid #[c.v, .int .u64 q, v] w fun e w1 => e = .returned (.bool true) ∧ Below w.heap.size w w1 := by
  have q0 : 0 ≤ q := (bounds_u64 hq).1
  by_cases hr : c.Right
  · rcases hl with ⟨rfl, rfl⟩ | ⟨b, off, cap, rfl, hcell, _, hblk⟩
    · have hargs : VRL (fun k => k < 1) (fun _ => 0) (A c q .nil) [c.v, .int .u64 q, .slice none 0 0] := fun ρ' ha => by
        simp [A, Ik.sv, Cfg.ren_v, ren]
      exact calls_of_C (main c q .nil hr q0) rfl none_isV hargs (HR_none _ 1)
    · have hargs : VRL (fun k => k < 1) (fun _ => b) (A c q (.row off cap L)) [c.v, .int .u64 q, .slice (some ⟨b, off, none⟩) L.length cap] := fun ρ' ha => by
        have e0 : ρ' 0 = b := ha 0 (by omega)
        simp [A, Ik.sv, Cfg.ren_v, ren, e0]
      exact calls_of_C (main c q (.row off cap L) hr q0) rfl view_isV hargs (HR_row2 (ρ := fun _ => b) Nat.zero_lt_one hcell hblk)
  · obtain ⟨ik, b, hv⟩ : ∃ (ik : Ik) (b : Nat), ∀ ρ' : Nat → Nat, ρ' 0 = b → ren ρ' (ik.sv 0) = v := by
      rcases hl with ⟨rfl, rfl⟩ | ⟨b, off, cap, rfl, _, _⟩
      · exact ⟨.nil, 0, fun _ _ => rfl⟩
      · exact ⟨.row off cap L, b, fun ρ' h => by simp [Ik.sv, ren, h]⟩
    have hargs : VRL (fun k => k < 1) (fun _ => b) (A c q ik) [c.v, .int .u64 q, v] := fun ρ' ha => by
      have e0 : ρ' 0 = b := ha 0 (by omega)
      simp only [A, List.map_cons, List.map_nil, Cfg.ren_v, ren_int, hv ρ' e0]
    have hz : c.len = 0 := if_neg hr
    exact true_of_path E50ok (p_nr c q ik) (pcs_of ⟨by omega, by omega, by omega, by rw [hz]; rfl, rfl, trivial⟩) none_isV hargs (HR_none _ 1)
end Go.Proofs.Ytjkohcdgjlaobaa.OpenSeenDone
