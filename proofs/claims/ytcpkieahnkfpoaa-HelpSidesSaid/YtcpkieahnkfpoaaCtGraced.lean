/- A grace that is played to its end; what it comes to. -/
import Derived.Test.YtcpkieahnkfpoaaCtGrace
namespace Go.Proofs.Ytcpkieahnkfpoaa.Ct
open Go Go.Proofs Go.Proofs.Ytcpkieahnkfpoaa.Ev
open Go.RowKit

def itG : Nat → Gr → Mm → Gr × Mm
  | 0, g, m => (g, m)
  | n + 1, g, m => itG n (g.step m) (g.mem m)
def hb (m : Mm) (ret t : Int) : Bool := ltr (getW m.w (cellIx m.c 3 t)) ret
theorem itG_done : ∀ (n : Nat) (g : Gr) (m : Mm), g.done m.c.t = true → itG n g m = (g, m)
  | 0, _, _, _ => rfl
  | n + 1, g, m, h => by
    unfold itG Gr.step Gr.mem
    rw [if_pos h, if_pos h]
    exact itG_done n g m h
theorem itG_ok : ∀ (n : Nat) (g : Gr) (m : Mm), m.ok → (itG n g m).2.ok ∧ (itG n g m).2.c = m.c ∧ (itG n g m).2.w = m.w
  | 0, _, _, h => ⟨h, rfl, rfl⟩
  | n + 1, g, m, h => by
    obtain ⟨h1, h2, h3⟩ := g.mem_ok h
    obtain ⟨q1, q2, q3⟩ := itG_ok n (g.step m) (g.mem m) h1
    exact ⟨q1, q2.trans h2, q3.trans h3⟩
theorem goI_in {own a : Int} (h0 : 0 ≤ a) (h1 : a < 100) : goI own a = if a + 1 = own then a + 2 else a + 1 := by
  unfold goI
  rw [w64_in (n := a + 1) (by omega) (by omega)]
  split
  · rw [w64_in (by omega) (by omega)]
    omega
  · rfl
theorem itG_spec : ∀ (n : Nat) (g : Gr) (m : Mm), g.later = false → 0 ≤ g.at' → g.at' ≠ g.own → m.c.t - g.at' ≤ (n : Int) → m.c.t ≤ 8 →
    (itG n g m).1.done m.c.t = true ∧ ((itG n g m).1.later = true ↔ ∃ t, g.at' ≤ t ∧ t < m.c.t ∧ t ≠ g.own ∧ hb m g.ret t = true)
  | n, g, m, hl, h0, hne, hn, h8 => by
    by_cases hge : g.at' ≥ m.c.t
    · have hd : g.done m.c.t = true := by
        unfold Gr.done
        rw [decide_eq_true hge, Bool.or_true]
      rw [itG_done n g m hd]
      refine ⟨hd, ?_⟩
      rw [hl]
      constructor
      · intro h; cases h
      · rintro ⟨t, h1, h2, _⟩
        omega
    · match n, hn with
      | 0, hn => exact absurd hn (by omega)
      | n + 1, hn =>
        have hd : ¬ g.done m.c.t = true := by
          unfold Gr.done
          rw [hl, decide_eq_false hge]
          simp
        have es : g.step m = ⟨g.own, goI g.own g.at', g.ret, hb m g.ret g.at'⟩ := by
          unfold Gr.step hb
          rw [if_neg hd]
        have em : g.mem m = mLd m 3 g.at' := by
          unfold Gr.mem
          rw [if_neg hd]
        unfold itG
        rw [es, em]
        cases hh : hb m g.ret g.at'
        · have hgo := goI_in (own := g.own) (a := g.at') h0 (by omega)
          have b1 : g.at' + 1 ≤ goI g.own g.at' := by rw [hgo]; split <;> omega
          have b2 : goI g.own g.at' ≠ g.own := by rw [hgo]; split <;> omega
          have b3 : ∀ t, g.at' ≤ t → t ≠ g.own → t ≠ g.at' → goI g.own g.at' ≤ t := fun t h1 h2 h3 => by rw [hgo]; split <;> omega
          obtain ⟨i1, i2⟩ := itG_spec n ⟨g.own, goI g.own g.at', g.ret, false⟩ (mLd m 3 g.at') rfl (show 0 ≤ goI g.own g.at' by omega) b2 (show m.c.t - goI g.own g.at' ≤ n by omega) h8
          refine ⟨i1, i2.trans ?_⟩
          constructor
          · rintro ⟨t, q1, q2, q3, q4⟩
            have q1' : goI g.own g.at' ≤ t := q1
            exact ⟨t, by omega, q2, q3, q4⟩
          · rintro ⟨t, q1, q2, q3, q4⟩
            exact ⟨t, b3 t q1 q3 (fun e => by rw [e, hh] at q4; cases q4), q2, q3, q4⟩
        · have hd' : (⟨g.own, goI g.own g.at', g.ret, true⟩ : Gr).done (mLd m 3 g.at').c.t = true := rfl
          rw [itG_done n _ _ hd']
          refine ⟨rfl, ?_⟩
          constructor
          · intro _
            exact ⟨g.at', Int.le_refl _, by omega, hne, hh⟩
          · intro _
            rfl
theorem graced_spec (own ret : Int) (m : Mm) (h8 : m.c.t ≤ 8) : ∀ n : Nat, m.c.t ≤ (n : Int) → (itG n (Gr.new own ret) m).1.done m.c.t = true ∧ ((itG n (Gr.new own ret) m).1.later = true ↔ ∃ t, 0 ≤ t ∧ t < m.c.t ∧ t ≠ own ∧ hb m ret t = true) := fun n hn => by
  have ea : (Gr.new own ret).at' = if 0 = own then 1 else 0 := rfl
  obtain ⟨h1, h2⟩ := itG_spec n (Gr.new own ret) m rfl (by rw [ea]; split <;> omega) (by rw [ea]; show _ ≠ own; split <;> omega) (by rw [ea]; split <;> omega) h8
  refine ⟨h1, h2.trans ?_⟩
  constructor
  · rintro ⟨t, q1, q2, q3, q4⟩
    rw [ea] at q1
    exact ⟨t, by split at q1 <;> omega, q2, q3, q4⟩
  · rintro ⟨t, q1, q2, q3, q4⟩
    refine ⟨t, ?_, q2, q3, q4⟩
    rw [ea]
    have q3' : t ≠ own := q3
    split <;> omega

noncomputable abbrev gdF : Func := Try.f50
abbrev gdId : FuncId := 50
def gdArgs (own ret : Int) : List Value := [pt0, .int .i64 own, .int .u64 ret]
def gdFr (T : Int) (g : Gr) (m : Mm) (i : Int) (ds : List Dec) : Fr := mkFr 28 [(0, pt0), (7, .pointer (some ⟨2, 0, none⟩)), (13, .int .i64 T), (14, .int .i64 i)] [(0, .cells (m.cells 1) memT), (1, .ints .u64 m.w u64T), (2, .cells g.cells grT)] 3 [0, 1] ds
def gdE (v : Bool) (m : Mm) : Fr := mkFr 28 [(6, .bool v)] [(0, .cells (m.cells 1) memT), (1, .ints .u64 m.w u64T)] 2 [0, 1] []
abbrev gdL : List Nat := [1, 1, 0, 1, 0, 0]
open Dec in
section
variable (T own ret : Int) (g : Gr) (m : Mm) (i : Nat)
def gdG (T : Int) (g : Gr) (m : Mm) : Fr := mkFr 28 [(0, pt0), (7, .pointer (some ⟨2, 0, none⟩)), (13, .int .i64 T), (14, .int .i64 0)] [(0, .cells (m.cells 1) memT), (1, .ints .u64 m.w u64T), (2, .cells g.cells grT)] 3 [] []
theorem gr_in : execR E18 8 .normal [.code (bd gdF [])] [0, 1, 2] [0, 7, 13, 14] 2 [] ⟨gdArgs own ret ++ List.replicate 25 undef, mHp m, [], []⟩ = some (.normal, [.code (.loop (bd gdF gdL)), .blk 0, .code (bd gdF [1, 1, 1])], gdG m.c.t (Gr.new own ret) m, []) := by kernel_rfl
theorem gr_rd : run E18 8 (bd gdF gdL) [0, 1, 2] [0, 7, 13, 14] 2 [] (gdFr T g m (i : Int) [t, Dec.l]) = some (.normal, gdFr T (g.step m) (g.mem m) (w64 ((i : Int) + 1)) [], [decide ((i : Int) < T) = true, m.ok]) := by kernel_rfl
theorem gr_end : run E18 8 (bd gdF gdL) [0, 1, 2] [7] 2 [] (gdFr T g m (i : Int) [f]) = some (.exit 0, mkFr 28 [(7, .pointer (some ⟨2, 0, none⟩))] [(0, .cells (m.cells 1) memT), (1, .ints .u64 m.w u64T), (2, .cells g.cells grT)] 3 [0, 1] [], [decide ((i : Int) < T) = false]) := by kernel_rfl
theorem gr_out : execR E18 8 (.exit 0) [.blk 0, .code (bd gdF [1, 1, 1])] [0, 1] [6] 2 [] (mkFr 28 [(7, .pointer (some ⟨2, 0, none⟩))] [(0, .cells (m.cells 1) memT), (1, .ints .u64 m.w u64T), (2, .cells g.cells grT)] 3 [0, 1] [Dec.l, Dec.l, Dec.l]) = some (.ret, [], gdE g.later m, []) := by kernel_rfl
end
open Dec in
theorem graced_C {m : Mm} (hok : m.ok) (h8 : m.c.t ≤ 8) (h0 : 0 ≤ m.c.t) (own ret : Int) : CallC Try.prog gdId (gdArgs own ret) (mHp m) (.bool (itG m.c.t.toNat (Gr.new own ret) m).1.later) (mHp (itG m.c.t.toNat (Gr.new own ret) m).2) := by
  generalize hR : itG m.c.t.toNat (Gr.new own ret) m = R
  generalize hT : m.c.t = T at *
  refine CallC.of_body (E := E18) (ds := []) (fn := gdF) 25 (by kernel_rfl) (by kernel_rfl) (by kernel_rfl) (by kernel_rfl) ?_
  have hin := gr_in own ret m
  rw [hT] at hin
  refine KC.of_exec E18ok hin (pcs_of trivial) (Nat.le_refl _) z2L ?_
  refine KC.alias (F := gdFr T (Gr.new own ret) m ((0 : Nat) : Int) []) [0, 1, 2] ?_ (by kernel_rfl) (by kernel_rfl) (by kernel_rfl) ⟨rfl, rfl, rfl, trivial⟩ (by kernel_rfl) z2L
  refine KC.loop (m0 := 2) (ι := Nat × Gr × Mm) (fun x => gdFr T x.2.1 x.2.2 (x.1 : Int) []) (fun x => (x.1 : Int) ≤ T ∧ x.2.2.ok ∧ itG (T - (x.1 : Int)).toNat x.2.1 x.2.2 = R) (fun x => T.toNat - x.1)
    (fun ex fr => ex = .exit 0 ∧ fr = mkFr 28 [(7, .pointer (some ⟨2, 0, none⟩))] [(0, .cells (R.2.cells 1) memT), (1, .ints .u64 R.2.w u64T), (2, .cells R.1.cells grT)] 3 [0, 1] []) (fun x hx => ?_) ?_ (0, Gr.new own ret, m) ⟨h0, hok, by show itG (T - ((0 : Nat) : Int)).toNat _ _ = R; rw [show T - ((0 : Nat) : Int) = T by omega]; exact hR⟩
  · obtain ⟨i, g, m1⟩ := x
    obtain ⟨hi, ho, he⟩ := hx
    simp only at hi ho he ⊢
    by_cases hlt : (i : Int) < T
    · obtain ⟨k, hk⟩ : ∃ k, (T - (i : Int)).toNat = k + 1 := ⟨(T - (i : Int)).toNat - 1, by omega⟩
      rw [hk] at he
      unfold itG at he
      exact CodeC.of_run (fr := gdFr T g m1 (i : Int) [t, Dec.l]) E18ok (gr_rd T g m1 i) (pcs_of ⟨decide_eq_true hlt, ho, trivial⟩) (show 2 ≤ 3 by omega) z2L (.inl ⟨rfl, (i + 1, g.step m1, g.mem m1), by rw [w64_succ i (by omega)], ⟨by simp only; omega, (g.mem_ok ho).1, by
        simp only
        rw [show (T - ((i + 1 : Nat) : Int)).toNat = k by omega]
        exact he⟩, by simp only; omega⟩)
    · have e : (T - (i : Int)).toNat = 0 := by omega
      rw [e] at he
      have he' : (g, m1) = R := he
      subst he'
      exact CodeC.of_run (fr := gdFr T g m1 (i : Int) [f]) E18ok (gr_end T g m1 i) (pcs_of ⟨decide_eq_false hlt, trivial⟩) (show 2 ≤ 3 by omega) z2L (.inr ⟨by simp, rfl, rfl⟩)
  rintro ex fr ⟨rfl, rfl⟩
  exact KC.of_exec (fr := mkFr 28 [(7, .pointer (some ⟨2, 0, none⟩))] [(0, .cells (R.2.cells 1) memT), (1, .ints .u64 R.2.w u64T), (2, .cells R.1.cells grT)] 3 [0, 1] [Dec.l, Dec.l, Dec.l]) E18ok (gr_out R.1 R.2) (pcs_of trivial) (show 2 ≤ 3 by omega) z2L (KC.done ⟨by simp, [.bool R.1.later], [], [0, 1], 0, by kernel_rfl, by simp, by kernel_rfl, rfl, z2L⟩)
def gGr (args : List Value) (hp : Hp) : Option (Value × Hp × List Prop) :=
  match args with
  | [.pointer (some ⟨k, 0, none⟩), .int .i64 own, .int .u64 ret] => match memOf hp k with
    | some (wn, m) => some (.bool (itG m.c.t.toNat (Gr.new own ret) m).1.later, memPut hp k wn (itG m.c.t.toNat (Gr.new own ret) m).2, [m.ok ∧ m.c.t ≤ 8 ∧ 0 ≤ m.c.t])
    | none => none
  | _ => none
theorem gGr_ok : ∀ args hp v hp' pc, gGr args hp = some (v, hp', pc) → ∀ ds, CallOk Try.prog gdId args hp ⟨v, hp', ds, pc⟩ := by
  intro args hp v hp' pc hg ds
  unfold gGr at hg
  split at hg
  · split at hg
    · rename_i h
      simp only [Option.some.injEq, Prod.mk.injEq] at hg
      obtain ⟨rfl, rfl, rfl⟩ := hg
      exact mem_lift (enters (fn := gdF) (by kernel_rfl) (by kernel_rfl) rfl) (fun hp => graced_C (hd1 hp).1 (hd1 hp).2.1 (hd1 hp).2.2 _ _) rfl rfl h ds
    · cases hg
  · cases hg
noncomputable def E19 : Env := E18.add gdId gGr
theorem E19ok : EnvOk E19 := E18ok.add gGr_ok
noncomputable def E20 : Env := E19.add 22 gOfW
theorem E20ok : EnvOk E20 := E19ok.add gOfW_ok
noncomputable def E21 : Env := E19.add 38 gNw
theorem E21ok : EnvOk E21 := E19ok.add gNw_ok
end Go.Proofs.Ytcpkieahnkfpoaa.Ct
