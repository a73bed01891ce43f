/- The spot that stands somewhere. -/
import Derived.Test.YtcpkieahnkfpoaaCtCell2
namespace Go.Proofs.Ytcpkieahnkfpoaa.Ct
open Go Go.Proofs Go.Proofs.Ytcpkieahnkfpoaa.Ev

def qAt (c : Cfg) (k j : Int) : Int := w64 ((w64 (k - (spanOf c j).a)).tdiv (spanOf c j).d)
theorem kindAt_in {c : Cfg} (h : c.Right) {k : Int} (h0 : 0 ≤ k) : 1 ≤ kindAt c k ∧ kindAt c k ≤ 8 := by
  have h' := h
  unfold Cfg.Right at h'
  unfold kindAt
  split
  · omega
  · split
    · omega
    · split <;> omega
theorem qAt_hit {c : Cfg} (h : c.Right) {k : Int} (h0 : 0 ≤ k) (h1 : k < c.len) : (spanOf c (kindAt c k)).d ≠ 0 ∧ qAt c k (kindAt c k) = numAt c k := by
  have h' := h
  unfold Cfg.Right at h'
  unfold Cfg.len at h1
  rw [if_pos h] at h1
  have e1 : w64 (2 + c.t) = 2 + c.t := w64_in (by omega) (by omega)
  have e2 : w64 (4 * c.s) = 4 * c.s := w64_in (by omega) (by omega)
  have e3 : w64 (2 + c.t + 4 * c.s) = 2 + c.t + 4 * c.s := w64_in (by omega) (by omega)
  have fin : ∀ a d : Int, -100 ≤ a → a ≤ 100 → (d = 1 ∨ d = 4) → 0 ≤ k - a → w64 ((w64 (k - a)).tdiv d) = (k - a) / d := fun a d b1 b2 hd hp => by
    rw [show w64 (k - a) = k - a from w64_in (by omega) (by omega), Int.tdiv_eq_ediv_of_nonneg hp]
    rcases hd with rfl | rfl <;> exact w64_in (by omega) (by omega)
  unfold qAt kindAt numAt
  by_cases a1 : k < 2
  · simp only [if_pos a1]
    unfold spanOf
    rw [if_pos (by omega)]
    have e5 : w64 (k + 1 - 1) = k := by rw [w64_in (by omega) (by omega)]; omega
    simp only [e5]
    refine ⟨by omega, ?_⟩
    rw [fin _ _ (by omega) (by omega) (.inl rfl) (by omega)]
    omega
  · simp only [if_neg a1]
    by_cases a2 : k < 2 + c.t
    · simp only [if_pos a2]
      unfold spanOf
      rw [if_neg (by omega), if_pos rfl]
      refine ⟨by simp, ?_⟩
      simp only []
      rw [fin _ _ (by omega) (by omega) (.inl rfl) (by omega)]
      omega
    · simp only [if_neg a2]
      by_cases a3 : k < 2 + c.t + 4 * c.s
      · simp only [if_pos a3]
        unfold spanOf
        rw [if_neg (by omega), if_neg (by omega), if_pos (by omega)]
        have e5 : w64 (2 + c.t + (4 + (k - 2 - c.t) % 4)) = 2 + c.t + (4 + (k - 2 - c.t) % 4) := w64_in (by omega) (by omega)
        have e6 : w64 (2 + c.t + (4 + (k - 2 - c.t) % 4) - 4) = 2 + c.t + (4 + (k - 2 - c.t) % 4) - 4 := w64_in (by omega) (by omega)
        simp only [e1, e5, e6]
        refine ⟨by omega, ?_⟩
        rw [fin _ _ (by omega) (by omega) (.inr rfl) (by omega)]
        omega
      · simp only [if_neg a3]
        unfold spanOf
        rw [if_neg (by omega), if_neg (by omega), if_neg (by omega), if_pos rfl]
        simp only [e1, e2, e3]
        refine ⟨by omega, ?_⟩
        rw [fin _ _ (by omega) (by omega) (.inl rfl) (by omega)]
        omega
theorem cellIx_uniq {c : Cfg} (h : c.Right) {j n j' n' : Int} {k : Int} (h0 : 0 ≤ k) (h1 : cellIx c j n = k) (h2 : cellIx c j' n' = k) : j = j' ∧ n = n' := by
  obtain ⟨m, rfl⟩ : ∃ m : Nat, k = (m : Int) := ⟨k.toNat, by omega⟩
  have a := spot_get h h1
  have b := spot_get h h2
  rw [a] at b
  simp at b
  exact b
theorem span_d {c : Cfg} {j : Int} (h1 : 1 ≤ j) (h2 : j ≤ 8) : (spanOf c j).d ≠ 0 := by
  unfold spanOf
  split
  · simp
  · split
    · simp
    · split
      · simp
      · split
        · simp
        · omega

noncomputable abbrev atB (p : List Nat) : Code := bd Try.f42 p
abbrev spotC : TypeId := 39
def atFr (c : Cfg) (k j : Int) (ds : List Dec) : Fr := mkFr 40 [(1, .int .i64 k), (2, .pointer (some ⟨0, 0, none⟩)), (4, .pointer (some ⟨1, 0, none⟩)), (5, .int .i64 j)] [(0, .cells c.cells cfgT), (1, .cells [.int .i64 0, .int .i64 0] spotC)] 2 [] ds
def atEnd (a b : Int) (ds : List Dec) : Fr := mkFr 40 [(4, .pointer (some ⟨0, 0, none⟩))] [(0, .cells [.int .i64 a, .int .i64 b] spotC)] 1 [] ds
open Dec in
section
variable (c : Cfg) (k j a b : Int) (ds' : List Dec)
theorem at_in : execR E5 5 .normal [.code (atB [])] [0, 1] [1, 2, 4, 5] 0 ds' ⟨[c.v, .int .i64 k] ++ List.replicate 38 undef, ⟨[], 0, []⟩, [f, f], []⟩ =
    some (.normal, [.code (.loop (atB [1,1,0,1,0,0])), .blk 0, .code (atB [1,1,1])], atFr c k 1 ds', [decide (k < 0) = false, decide (k ≥ c.len) = false]) := by kernel_rfl
theorem at_hit : run E5 5 (atB [1,1,0,1,0,0]) [1] [4] 0 ds' (atFr c k j [t, t]) = some (.ret, atEnd j (qAt c k j) ds', [decide (j ≤ 8) = true, (spanOf c j).d ≠ 0, (cellIx c j (qAt c k j) == k) = true]) := by kernel_rfl
theorem at_no : run E5 5 (atB [1,1,0,1,0,0]) [0, 1] [1, 2, 4, 5] 0 ds' (atFr c k j [t, f]) = some (.normal, atFr c k (w64 (j + 1)) ds', [decide (j ≤ 8) = true, (spanOf c j).d ≠ 0, (cellIx c j (qAt c k j) == k) = false]) := by kernel_rfl
theorem at_ret : execR E5 5 .ret [.blk 0, .code (atB [1,1,1])] [0] [4] 0 ds' (atEnd a b []) = some (.ret, [], atEnd a b ds', []) := by kernel_rfl
end
open Dec in
theorem at_chart (c : Cfg) (k : Int) (h : c.Right) (h0 : 0 ≤ k) (h1 : k < c.len) : CallC Try.prog 42 [c.v, .int .i64 k] ⟨[], 0, []⟩ (.agg ⟨[.int .i64 (kindAt c k), .int .i64 (numAt c k)]⟩) ⟨[], 0, []⟩ := by
  have z0 : ∀ (ns : List Nat) k, k < 0 → ns.getD k 0 = k := fun ns k hk => absurd hk (Nat.not_lt_zero k)
  obtain ⟨k1, k2⟩ := kindAt_in h h0
  obtain ⟨d0, q0⟩ := qAt_hit h h0 h1
  have hat := cellIx_at h h0 h1
  refine CallC.of_body (E := E5) (ds := [f, f]) (fn := Try.f42) 38 (by kernel_rfl) (by kernel_rfl) (by kernel_rfl) (by kernel_rfl) ?_
  refine KC.of_exec E5ok (at_in c k (if (1 : Int) = kindAt c k then [t, t] else [t, f])) (pcs_of ⟨decide_eq_false (by omega), decide_eq_false (by omega), trivial⟩) (Nat.zero_le _) (z0 _) ?_
  have hloop := KC.loop (E := E5) (m0 := 0) (c := atB [1,1,0,1,0,0]) (K := [.blk 0, .code (atB [1,1,1])]) (Fin := Ev.Ends E5 Try.f42 0 (.agg ⟨[.int .i64 (kindAt c k), .int .i64 (numAt c k)]⟩) ⟨[], 0, []⟩)
    (fun i : Nat => atFr c k (i : Int) (if (i : Int) = kindAt c k then [t, t] else [t, f])) (fun i => 1 ≤ i ∧ (i : Int) ≤ kindAt c k) (fun i => 9 - i) (fun ex fr => ex = .ret ∧ fr = atEnd (kindAt c k) (numAt c k) []) (fun i hi => ?_) ?_ 1 ⟨Nat.le_refl _, by omega⟩
  · exact hloop
  · obtain ⟨hi1, hi2⟩ := hi
    by_cases he : (i : Int) = kindAt c k
    · rw [if_pos he]
      have := CodeC.of_run (m0 := 0) (Fin := fun ex fr1 => (ex = .normal ∧ ∃ j : Nat, fr1 = atFr c k (j : Int) (if (j : Int) = kindAt c k then [t, t] else [t, f]) ∧ (1 ≤ j ∧ (j : Int) ≤ kindAt c k) ∧ 9 - j < 9 - i) ∨ (ex ≠ .normal ∧ (ex = .ret ∧ fr1 = atEnd (kindAt c k) (numAt c k) []))) E5ok (at_hit c k i [])
        (pcs_of ⟨decide_eq_true (by omega), by rw [he]; exact d0, by rw [he, q0, hat]; simp, trivial⟩) (Nat.zero_le _) (z0 _) (.inr ⟨by simp, rfl, by rw [he, q0]⟩)
      exact this
    · rw [if_neg he]
      refine CodeC.of_run E5ok (at_no c k i (if ((i + 1 : Nat) : Int) = kindAt c k then [t, t] else [t, f])) (pcs_of ⟨decide_eq_true (by omega), span_d (by omega) (by omega), ?_, trivial⟩) (Nat.zero_le _) (z0 _) (.inl ⟨rfl, i + 1, ?_, ⟨by omega, by omega⟩, by omega⟩)
      · rw [beq_eq_false_iff_ne]
        intro hc
        exact he (cellIx_uniq h h0 hc hat).1
      · rw [w64_in (by omega) (by omega)]
        rfl
  · rintro ex fr1 ⟨rfl, rfl⟩
    exact KC.of_exec E5ok (at_ret (kindAt c k) (numAt c k) []) (pcs_of trivial) (Nat.zero_le _) (z0 _) (KC.done ⟨by simp, [.agg ⟨[.int .i64 (kindAt c k), .int .i64 (numAt c k)]⟩], [], [], 0, by kernel_rfl, by simp, by kernel_rfl, rfl, z0 _⟩)

def gAt (args : List Value) (hp : Hp) : Option (Value × Hp × List Prop) :=
  match args with
  | [v, .int .i64 k] => match cfgOf v with
    | some c => some (.agg ⟨[.int .i64 (kindAt c k), .int .i64 (numAt c k)]⟩, hp, [c.Right ∧ 0 ≤ k ∧ k < c.len])
    | none => none
  | _ => none
theorem gAt_ok : ∀ args hp v hp' pc, gAt args hp = some (v, hp', pc) → ∀ ds, CallOk Try.prog 42 args hp ⟨v, hp', ds, pc⟩ := by
  intro args hp v hp' pc hg ds
  unfold gAt at hg
  split at hg
  · split at hg
    · rename_i _ _ k _ c hc
      simp only [Option.some.injEq, Prod.mk.injEq] at hg
      obtain ⟨rfl, rfl, rfl⟩ := hg
      rw [cfgOf_some hc]
      exact CallC.pure (enters (fn := Try.f42) (by kernel_rfl) (by kernel_rfl) rfl) (fun h => by
        obtain ⟨h1, h2, h3⟩ := h _ (List.mem_cons_self)
        exact at_chart c k h1 h2 h3) rfl rfl hp ds
    · cases hg
  · cases hg
noncomputable def E6 : Env := E5.add 42 gAt
theorem E6ok : EnvOk E6 := E5ok.add gAt_ok
end Go.Proofs.Ytcpkieahnkfpoaa.Ct
