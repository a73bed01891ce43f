/- What 'PinHolds' comes to, of any input: it returns true and changes nothing that was there. -/
import Derived.Test.YtcpkieahnkfpoaaCtGraced
namespace Go.Proofs.Ytcpkieahnkfpoaa.PinHoldsDone
open Go Go.Proofs Go.Proofs.Ytcpkieahnkfpoaa.Ev Go.Proofs.Ytcpkieahnkfpoaa.Ct
open Go.RowKit

noncomputable abbrev fn : Func := Try.f9
abbrev fid : FuncId := 9
def zv (th rt st : Int) (sv : Value) : List Value := [.int .i64 th, .int .u64 rt, .int .i64 st, sv]
def args (c : Cfg) (a : Option Addr) (n cap : Nat) (th rt st : Int) (sv : Value) : List Value := [c.v, .slice a n cap, .agg ⟨zv th rt st sv⟩]
def bl (c : Cfg) (l : List Int) (off : Nat) (pk : Pk) (th rt st : Int) (g : Gr) (m : Mm) : List (Nat × Blk) :=
  (0, .view off (.ints .u64 l u64T)) :: (pk.blk 1 ++ [(2, .cells c.cells 24), (3, .cells (zv th rt st (pk.sv 1)) 72), (4, .cells (m.cells 5) memT), (5, .ints .u64 m.w u64T), (6, .cells g.cells grT)])
def fr1 (c : Cfg) (l : List Int) (off : Nat) (pk : Pk) (th rt st : Int) (g : Gr) (m : Mm) (i : Int) (ds : List Dec) : Fr := mkFr 85 [(3, .pointer (some ⟨2, 0, none⟩)), (5, .pointer (some ⟨3, 0, none⟩)), (7, .pointer (some ⟨4, 0, none⟩)), (10, .pointer (some ⟨6, 0, none⟩)), (38, .int .i64 c.t), (39, .int .i64 i)] (bl c l off pk th rt st g m) 7 [] ds
def frM (c : Cfg) (l : List Int) (off : Nat) (pk : Pk) (th rt st : Int) (g : Gr) (m : Mm) (ds : List Dec) : Fr := mkFr 85 [(3, .pointer (some ⟨2, 0, none⟩)), (5, .pointer (some ⟨3, 0, none⟩)), (7, .pointer (some ⟨4, 0, none⟩)), (10, .pointer (some ⟨6, 0, none⟩))] (bl c l off pk th rt st g m) 7 [] ds
def fr2 (c : Cfg) (l : List Int) (off : Nat) (pk : Pk) (th rt st : Int) (g : Gr) (m : Mm) (hd : Bool) (i : Int) (ds : List Dec) : Fr := mkFr 85 [(3, .pointer (some ⟨2, 0, none⟩)), (5, .pointer (some ⟨3, 0, none⟩)), (7, .pointer (some ⟨4, 0, none⟩)), (10, .pointer (some ⟨6, 0, none⟩)), (11, .bool hd), (46, .int .i64 c.t), (47, .int .i64 i)] (bl c l off pk th rt st g m) 7 [] ds
def frX (c : Cfg) (l : List Int) (off : Nat) (pk : Pk) (th rt st : Int) (g : Gr) (m : Mm) (hd : Bool) (ds : List Dec) : Fr := mkFr 85 [(7, .pointer (some ⟨4, 0, none⟩)), (10, .pointer (some ⟨6, 0, none⟩)), (11, .bool hd)] (bl c l off pk th rt st g m) 7 [] ds
def frE (l : List Int) (off : Nat) (pk : Pk) (v : Bool) : Fr := mkFr 85 [(6, .bool v)] (plHp l off pk).blks 2 [] []
abbrev lp1 : List Nat := [1, 1, 1, 1, 0, 1, 0, 0]
abbrev lp2 : List Nat := [1, 1, 1, 1, 1, 1, 0, 1, 0, 0]
noncomputable abbrev K1 : List Kt := [.blk 0, .code (bd fn [1, 1, 1, 1, 1])]
noncomputable abbrev K2 : List Kt := [.blk 2, .code (bd fn [1, 1, 1, 1, 1, 1, 1])]
open Dec in
section
variable (c : Cfg) (l : List Int) (off cap : Nat) (pk : Pk) (th rt st : Int) (g : Gr) (m : Mm) (hd : Bool) (i : Nat)
noncomputable abbrev start (ds : List Dec) : Fr := ⟨args c (some ⟨0, off, none⟩) l.length cap th rt st (pk.sv 1) ++ List.replicate 82 undef, plHp l off pk, ds, []⟩
theorem ph_in : execR E20 8 .normal [.code (bd fn [])] [0, 1, 2, 3, 4, 5, 9] [3, 5, 7, 10, 38, 39] 2 [] (start c l off cap pk th rt st (List.replicate 4 Dec.l)) =
    some (.normal, .code (.loop (bd fn lp1)) :: K1, fr1 c l off pk th rt st (Gr.new th rt) (newM c l) 0 [], [c.Right ∧ (l.length : Int) = c.len ∧ l.length = l.length ∧ off = off]) := by cases pk <;> kernel_rfl
theorem ph_1 : run E20 8 (bd fn lp1) [0, 1, 2, 3, 4, 5, 6] [3, 5, 7, 10, 38, 39] 2 [] (fr1 c l off pk th rt st g m (i : Int) [t]) = some (.normal, fr1 c l off pk th rt st (g.step m) (g.mem m) (w64 ((i : Int) + 1)) [], [decide ((i : Int) < c.t) = true, m.ok]) := by cases pk <;> kernel_rfl
theorem ph_1e : run E20 8 (bd fn lp1) [0, 1, 2, 3, 4, 5, 6] [3, 5, 7, 10] 2 [] (fr1 c l off pk th rt st g m (i : Int) [f]) = some (.exit 0, frM c l off pk th rt st g m [], [decide ((i : Int) < c.t) = false]) := by cases pk <;> kernel_rfl
theorem ph_12 : execR E20 8 (.exit 0) K1 [0, 1, 2, 3, 4, 5, 6] [3, 5, 7, 10, 11, 46, 47] 2 [] (frM c l off pk th rt st g m []) = some (.normal, .code (.loop (bd fn lp2)) :: K2, fr2 c l off pk th rt st g m false 0 [], []) := by cases pk <;> kernel_rfl
abbrev pin (m : Mm) (i : Nat) : Int := getW m.w (cellIx m.c 3 i)
def rd (c : Cfg) (m : Mm) (i : Nat) : List Prop := [decide ((i : Int) < c.t) = true, m.ok]
theorem ph_h : run E20 8 (bd fn lp2) [0, 1, 2, 3, 4, 5, 6] [3, 5, 7, 10, 11, 46, 47] 2 [] (fr2 c l off pk th rt st g m hd (i : Int) [t, t]) = some (.normal, fr2 c l off pk th rt st g (mLd m 3 i) true (w64 ((i : Int) + 1)) [], rd c m i ++ [hd = true]) := by cases pk <;> kernel_rfl
theorem ph_o : run E20 8 (bd fn lp2) [0, 1, 2, 3, 4, 5, 6] [3, 5, 7, 10, 11, 46, 47] 2 [] (fr2 c l off pk th rt st g m hd (i : Int) [t, f, f, Dec.l]) = some (.normal, fr2 c l off pk th rt st g (mLd m 3 i) false (w64 ((i : Int) + 1)) [], rd c m i ++ [hd = false, ((i : Int) != th) = false]) := by cases pk <;> kernel_rfl
theorem ph_z : run E20 8 (bd fn lp2) [0, 1, 2, 3, 4, 5, 6] [3, 5, 7, 10, 11, 46, 47] 2 [] (fr2 c l off pk th rt st g m hd (i : Int) [t, f, t, f]) = some (.normal, fr2 c l off pk th rt st g (mLd m 3 i) false (w64 ((i : Int) + 1)) [], rd c m i ++ [hd = false, ((i : Int) != th) = true, (pin m i != 0) = false]) := by cases pk <;> kernel_rfl
theorem ph_p : run E20 8 (bd fn lp2) [0, 1, 2, 3, 4, 5, 6] [3, 5, 7, 10, 11, 46, 47] 2 [] (fr2 c l off pk th rt st g m hd (i : Int) [t, f, t, t]) = some (.normal, fr2 c l off pk th rt st g (mLd m 3 i) (decide (u64 (pin m i - 1) ≤ rt)) (w64 ((i : Int) + 1)) [], rd c m i ++ [hd = false, ((i : Int) != th) = true, (pin m i != 0) = true]) := by cases pk <;> kernel_rfl
theorem ph_2e : run E20 8 (bd fn lp2) [0, 1, 2, 3, 4, 5, 6] [7, 10, 11] 2 [] (fr2 c l off pk th rt st g m hd (i : Int) [f]) = some (.exit 2, frX c l off pk th rt st g m hd [], [decide ((i : Int) < c.t) = false]) := by cases pk <;> kernel_rfl
theorem ph_out : execR E20 8 (.exit 2) K2 [0, 1] [6] 2 [] (frX c l off pk th rt st g m hd [Dec.l, t]) = some (.ret, [], frE l off pk (g.later == hd), [g.done m.c.t = true]) := by cases pk <;> kernel_rfl
theorem not_right (a : Option Addr) (n : Nat) : told (doCall E19 20 fid (args c a n cap th rt st (pk.sv 1)) ⟨[], 2, []⟩ (t :: List.replicate 8 Dec.l)) = some (.bool true, [(!rightB c) = true]) := by cases pk <;> kernel_rfl
theorem not_len (a : Option Addr) (n : Nat) : told (doCall E19 20 fid (args c a n cap th rt st (pk.sv 1)) ⟨[], 2, []⟩ (f :: t :: List.replicate 8 Dec.l)) = some (.bool true, [(!rightB c) = false, c.Right, ((n : Int) != c.len) = true]) := by cases pk <;> kernel_rfl
end
theorem hb_eq {c : Cfg} {l : List Int} {m : Mm} (hc : m.c = c) (hw : m.w = l) (rt t : Int) : hb m rt t = hb (newM c l) rt t := by
  unfold hb
  rw [hc, hw]
  rfl
/-- Whether one of the first threads holds. -/
def Hld (c : Cfg) (l : List Int) (th rt : Int) (i : Nat) : Prop := ∃ t, 0 ≤ t ∧ t < (i : Int) ∧ t ≠ th ∧ hb (newM c l) rt t = true
theorem Hld_succ {c : Cfg} {l : List Int} {th rt : Int} {i : Nat} : Hld c l th rt (i + 1) ↔ Hld c l th rt i ∨ ((i : Int) ≠ th ∧ hb (newM c l) rt i = true) := by
  constructor
  · rintro ⟨t, h1, h2, h3, h4⟩
    by_cases e : t = (i : Int)
    · subst e
      exact .inr ⟨h3, h4⟩
    · exact .inl ⟨t, h1, by omega, h3, h4⟩
  · rintro (⟨t, h1, h2, h3, h4⟩ | ⟨h3, h4⟩)
    · exact ⟨t, h1, by omega, h3, h4⟩
    · exact ⟨(i : Int), by omega, by omega, h3, h4⟩
open Dec in
theorem main (c : Cfg) (l : List Int) (off cap : Nat) (pk : Pk) (th rt st : Int) (hr : c.Right) (hlen : (l.length : Int) = c.len) :
    CallC Try.prog fid (args c (some ⟨0, off, none⟩) l.length cap th rt st (pk.sv 1)) (plHp l off pk) (.bool true) (plHp l off pk) := by
  have hr' := hr
  unfold Cfg.Right at hr'
  have o0 := newM_ok hlen
  obtain ⟨R, hR⟩ : ∃ R, itG c.t.toNat (Gr.new th rt) (newM c l) = R := ⟨_, rfl⟩
  obtain ⟨s1, s2⟩ := graced_spec th rt (newM c l) (show c.t ≤ 8 by omega) c.t.toNat (show c.t ≤ _ by omega)
  rw [hR] at s1 s2
  obtain ⟨r1, r2, r3⟩ := itG_ok c.t.toNat (Gr.new th rt) _ o0
  rw [hR] at r1 r2 r3
  have hfin : R.1.later = true ↔ Hld c l th rt c.t.toNat := s2.trans (by
    unfold Hld
    rw [show ((c.t.toNat : Nat) : Int) = c.t by omega]
    rfl)
  refine CallC.of_body (E := E20) (ds := List.replicate 4 Dec.l) (fn := fn) 82 (by kernel_rfl) (by kernel_rfl) (by kernel_rfl) (by kernel_rfl) ?_
  refine KC.of_exec (fr := start c l off cap pk th rt st (List.replicate 4 Dec.l)) E20ok (ph_in c l off cap pk th rt st) (pcs_of ⟨⟨hr, hlen, rfl, rfl⟩, trivial⟩) (Nat.le_refl _) z2L ?_
  refine KC.loop (m0 := 2) (ι := Nat × Gr × Mm) (fun x => fr1 c l off pk th rt st x.2.1 x.2.2 (x.1 : Int) []) (fun x => (x.1 : Int) ≤ c.t ∧ x.2.2.ok ∧ itG (c.t - (x.1 : Int)).toNat x.2.1 x.2.2 = R) (fun x => c.t.toNat - x.1)
    (fun ex fr => ex = .exit 0 ∧ fr = frM c l off pk th rt st R.1 R.2 []) (fun x hx => ?_) ?_ (0, Gr.new th rt, newM c l) ⟨by simp only; omega, o0, by show itG (c.t - ((0 : Nat) : Int)).toNat _ _ = R; rw [show c.t - ((0 : Nat) : Int) = c.t by omega]; exact hR⟩
  · obtain ⟨i, g, m1⟩ := x
    obtain ⟨hi, ho, he⟩ := hx
    simp only at hi ho he ⊢
    by_cases hlt : (i : Int) < c.t
    · obtain ⟨k, hk⟩ : ∃ k, (c.t - (i : Int)).toNat = k + 1 := ⟨(c.t - (i : Int)).toNat - 1, by omega⟩
      rw [hk] at he
      unfold itG at he
      exact CodeC.of_run (fr := fr1 c l off pk th rt st g m1 (i : Int) [t]) E20ok (ph_1 c l off pk th rt st g m1 i) (pcs_of ⟨decide_eq_true hlt, ho, trivial⟩) (show 2 ≤ 7 by omega) z2L (.inl ⟨rfl, (i + 1, g.step m1, g.mem m1), by rw [w64_succ i (by omega)], ⟨by simp only; omega, (g.mem_ok ho).1, by
        simp only
        rw [show (c.t - ((i + 1 : Nat) : Int)).toNat = k by omega]
        exact he⟩, by simp only; omega⟩)
    · have e : (c.t - (i : Int)).toNat = 0 := by omega
      rw [e] at he
      have he' : (g, m1) = R := he
      rw [← he']
      exact CodeC.of_run (fr := fr1 c l off pk th rt st g m1 (i : Int) [f]) E20ok (ph_1e c l off pk th rt st g m1 i) (pcs_of ⟨decide_eq_false hlt, trivial⟩) (show 2 ≤ 7 by omega) z2L (.inr ⟨by simp, rfl, rfl⟩)
  rintro ex fr ⟨rfl, rfl⟩
  refine KC.of_exec E20ok (ph_12 c l off pk th rt st R.1 R.2) (pcs_of trivial) (show 2 ≤ 7 by omega) z2L ?_
  refine KC.loop (m0 := 2) (ι := Nat × Mm × Bool) (fun x => fr2 c l off pk th rt st R.1 x.2.1 x.2.2 (x.1 : Int) []) (fun x => (x.1 : Int) ≤ c.t ∧ x.2.1.ok ∧ x.2.1.c = c ∧ x.2.1.w = l ∧ (x.2.2 = true ↔ Hld c l th rt x.1)) (fun x => c.t.toNat - x.1)
    (fun ex fr => ex = .exit 2 ∧ ∃ (m : Mm) (hd : Bool), m.c = c ∧ (hd = true ↔ Hld c l th rt c.t.toNat) ∧ fr = frX c l off pk th rt st R.1 m hd []) (fun x hx => ?_) ?_ (0, R.2, false) ⟨by simp only; omega, r1, r2, r3, by
      constructor
      · intro h; cases h
      · rintro ⟨t, h1, h2, _⟩
        simp only at h2
        omega⟩
  · obtain ⟨i, m, hd⟩ := x
    obtain ⟨hi, ho, hc, hw, hH⟩ := hx
    simp only at hi ho hc hw hH ⊢
    by_cases hlt : (i : Int) < c.t
    · have hrd : ∀ p ∈ rd c m i, p := pcs_of ⟨decide_eq_true hlt, ho, trivial⟩
      have ho' : (mLd m 3 i).ok := acc_ok ho rfl
      have hpin : hb (newM c l) rt i = ((pin m i != 0) && decide (u64 (pin m i - 1) ≤ rt)) := by
        rw [← hb_eq hc hw rt i]
        rfl
      have next : ∀ b : Bool, (b = true ↔ Hld c l th rt (i + 1)) → ∃ j : Nat × Mm × Bool, fr2 c l off pk th rt st R.1 (mLd m 3 i) b (w64 ((i : Int) + 1)) [] = fr2 c l off pk th rt st R.1 j.2.1 j.2.2 (j.1 : Int) [] ∧ ((j.1 : Int) ≤ c.t ∧ j.2.1.ok ∧ j.2.1.c = c ∧ j.2.1.w = l ∧ (j.2.2 = true ↔ Hld c l th rt j.1)) ∧ c.t.toNat - j.1 < c.t.toNat - i := fun b hb' =>
        ⟨(i + 1, mLd m 3 i, b), by rw [w64_succ i (by omega)], ⟨by simp only; omega, ho', hc, hw, hb'⟩, by simp only; omega⟩
      cases hhd : hd
      · rw [hhd] at hH
        have hN : ¬ Hld c l th rt i := fun h => by cases hH.2 h
        by_cases hth : (i : Int) = th
        · exact CodeC.of_run (fr := fr2 c l off pk th rt st R.1 m false (i : Int) [t, f, f, Dec.l]) E20ok (ph_o c l off pk th rt st R.1 m false i) (pcs_app hrd (pcs_of ⟨rfl, by rw [hth]; exact bne_self_eq_false _, trivial⟩)) (show 2 ≤ 7 by omega) z2L (.inl ⟨rfl, next false (by
            rw [Hld_succ]
            constructor
            · intro h; cases h
            · rintro (h | ⟨h, _⟩)
              · exact absurd h hN
              · exact absurd hth h)⟩)
        · by_cases hz : pin m i = 0
          · exact CodeC.of_run (fr := fr2 c l off pk th rt st R.1 m false (i : Int) [t, f, t, f]) E20ok (ph_z c l off pk th rt st R.1 m false i) (pcs_app hrd (pcs_of ⟨rfl, bne_iff_ne.2 hth, by rw [hz]; rfl, trivial⟩)) (show 2 ≤ 7 by omega) z2L (.inl ⟨rfl, next false (by
              rw [Hld_succ]
              constructor
              · intro h; cases h
              · rintro (h | ⟨_, h⟩)
                · exact absurd h hN
                · rw [hpin, hz] at h
                  cases h)⟩)
          · have hz' : (pin m i != 0) = true := bne_iff_ne.2 hz
            exact CodeC.of_run (fr := fr2 c l off pk th rt st R.1 m false (i : Int) [t, f, t, t]) E20ok (ph_p c l off pk th rt st R.1 m false i) (pcs_app hrd (pcs_of ⟨rfl, bne_iff_ne.2 hth, hz', trivial⟩)) (show 2 ≤ 7 by omega) z2L (.inl ⟨rfl, next _ (by
              rw [Hld_succ, hpin, hz', Bool.true_and]
              constructor
              · exact fun h => .inr ⟨hth, h⟩
              · rintro (h | ⟨_, h⟩)
                · exact absurd h hN
                · exact h)⟩)
      · rw [hhd] at hH
        exact CodeC.of_run (fr := fr2 c l off pk th rt st R.1 m true (i : Int) [t, t]) E20ok (ph_h c l off pk th rt st R.1 m true i) (pcs_app hrd (pcs_of ⟨rfl, trivial⟩)) (show 2 ≤ 7 by omega) z2L (.inl ⟨rfl, next true (by
            rw [Hld_succ]
            exact ⟨fun _ => .inl (hH.1 rfl), fun _ => rfl⟩)⟩)
    · have e : i = c.t.toNat := by omega
      exact CodeC.of_run (fr := fr2 c l off pk th rt st R.1 m hd (i : Int) [f]) E20ok (ph_2e c l off pk th rt st R.1 m hd i) (pcs_of ⟨decide_eq_false hlt, trivial⟩) (show 2 ≤ 7 by omega) z2L (.inr ⟨by simp, rfl, m, hd, hc, by rw [← e]; exact hH, rfl⟩)
  rintro ex fr ⟨rfl, m, hd, hc, hH, rfl⟩
  have hv : (R.1.later == hd) = true := by
    rw [beq_iff_eq]
    have := hfin.trans hH.symm
    cases h1 : R.1.later <;> cases h2 : hd <;> simp_all
  have hout := ph_out c l off pk th rt st R.1 m hd
  rw [hv] at hout
  refine KC.of_exec (fr := frX c l off pk th rt st R.1 m hd [Dec.l, t]) E20ok hout (pcs_of ⟨by rw [hc]; exact s1, trivial⟩) (show 2 ≤ 7 by omega) z2L (KC.done ?_)
  cases pk with
  | nil => exact ⟨by simp, [.bool true], [], [0, 1], 2, by kernel_rfl, by simp, by kernel_rfl, rfl, z2L⟩
  | row of2 cap2 rows => exact ⟨by simp, [.bool true], [], [0, 1], 2, by kernel_rfl, by simp, by kernel_rfl, rfl, z2L⟩

theorem walk (c : Cfg) (v : Value) (l : List Int) (zs : List Int) (sv : Value) (rows : List (List Int)) (w : World) (hl : RowIn .u64 w v l) (hz : zs.length = 3) (_ : ∀ i, i < 3 → (Lit.int (([.i64, .u64, .i64] : List IntKind).getD i .i64) (zs.getD i 0)).wf = true) (hs : RowR pkK w sv rows) :
    Calls Try.prog fid #[c.v, v, .agg ⟨rowV [.i64, .u64, .i64] zs ++ [sv]⟩] w fun e w1 => e = .returned (.bool true) ∧ Below w.heap.size w w1 := by
  obtain ⟨th, rt, st, rfl⟩ : ∃ a b d, zs = [a, b, d] := by
    match zs, hz with
    | [a, b, d], _ => exact ⟨a, b, d, rfl⟩
  exact law_play (E' := E20) E19ok rfl hl hs (fun hr hlen off cap pk => ⟨_, main c l off cap pk th rt st hr hlen⟩)
    (fun hr a m cap pk => ⟨_, _, not_right c cap pk th rt st a m, pcs_of ⟨by simp [rightB, hr], trivial⟩⟩)
    (fun hr a m cap pk hlen => ⟨_, _, not_len c cap pk th rt st a m, pcs_of ⟨by simp [rightB, hr], hr, by simpa using hlen, trivial⟩⟩)
end Go.Proofs.Ytcpkieahnkfpoaa.PinHoldsDone
