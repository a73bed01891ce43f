/- The document's row of spots, what it is long, and where a spot stands in it. -/
import Derived.Test.YtcpkieahnkfpoaaCtChart
namespace Go.Proofs.Ytcpkieahnkfpoaa.Ct
open Go Go.Proofs Go.Proofs.Ytcpkieahnkfpoaa.Ev

def spT (n : Nat) : List (List Int) := [[1, 0], [2, 0]] ++ (List.range n).map fun (j : Nat) => [3, (j : Int)]
def spS (t n : Nat) : List (List Int) := spT t ++ (List.range n).flatMap fun (j : Nat) => [[4, (j : Int)], [5, (j : Int)], [6, (j : Int)], [7, (j : Int)]]
def spK (t s n : Nat) : List (List Int) := spS t s ++ (List.range n).map fun (j : Nat) => [8, (j : Int)]
def Cfg.spots (c : Cfg) : List (List Int) := spK c.t.toNat c.s.toNat c.k.toNat
theorem spT_len (n : Nat) : (spT n).length = 2 + n := by simp [spT]; omega
theorem spS_len (t n : Nat) : (spS t n).length = 2 + t + 4 * n := by
  have : ((List.range n).flatMap fun (j : Nat) => [[4, (j : Int)], [5, (j : Int)], [6, (j : Int)], [7, (j : Int)]]).length = 4 * n := by
    induction n with
    | zero => rfl
    | succ n ih => rw [List.range_succ, List.flatMap_append, List.length_append, ih]; simp; omega
  simp only [spS, List.length_append, this, spT_len]
theorem spK_len (t s n : Nat) : (spK t s n).length = 2 + t + 4 * s + n := by simp [spK, spS_len]
theorem spT_succ (n : Nat) : spT (n + 1) = spT n ++ [[3, (n : Int)]] := by simp [spT, List.range_succ]
theorem spS_succ (t n : Nat) : spS t (n + 1) = spS t n ++ [[4, (n : Int)], [5, (n : Int)], [6, (n : Int)], [7, (n : Int)]] := by simp [spS, List.range_succ, List.flatMap_append]
theorem spK_succ (t s n : Nat) : spK t s (n + 1) = spK t s n ++ [[8, (n : Int)]] := by simp [spK, List.range_succ]

abbrev spotsF : FuncId := 83
abbrev spotT : TypeId := 29
abbrev cfgT : TypeId := 24
noncomputable abbrev spB (p : List Nat) : Code := bd Try.f83 p
def spFr0 (c : Cfg) (ds : List Dec) : Fr := mkFr 53 [(1, .pointer (some ⟨0, 0, none⟩)), (3, .slice (some ⟨1, 0, none⟩) 2 2), (4, .int .i64 0)] [(0, .cells c.cells cfgT), (1, .cells [.int .i64 1, .int .i64 0, .int .i64 2, .int .i64 0] spotT)] 2 [] ds
def spFr (c : Cfg) (n : Nat) (l : List (List Int)) (t : Nat) (i : Int) (ds : List Dec) : Fr := mkFr 53 [(1, .pointer (some ⟨0, 0, none⟩)), (3, .slice (some ⟨1, 0, some 2⟩) n 0), (t, .int .i64 i)] [(0, .cells c.cells cfgT), (1, .own (.recs [.i64, .i64] l spotT) 2)] 3 [] ds
def spFrE (c : Cfg) (n : Nat) (l : List (List Int)) (ds : List Dec) : Fr := mkFr 53 [(1, .pointer (some ⟨0, 0, none⟩)), (3, .slice (some ⟨1, 0, some 2⟩) n 0)] [(0, .cells c.cells cfgT), (1, .own (.recs [.i64, .i64] l spotT) 2)] 3 [] ds

open Dec in
section
variable (c : Cfg) (n : Nat) (l : List (List Int)) (i : Int) (ds' : List Dec)
theorem sp_in : execR E3 5 .normal [.code (spB [])] [0, 1] [1, 3, 4] 0 ds' ⟨[c.v] ++ List.replicate 52 undef, ⟨[], 0, []⟩, [f], []⟩ =
    some (.normal, [.code (.loop (spB [1,1,1,0,1,0,0])), .blk 0, .code (spB [1,1,1,1])], spFr0 c ds', [(!rightB c) = false]) := by kernel_rfl
theorem sp_1z : run E3 5 (spB [1,1,1,0,1,0,0]) [0, 3, 4] [1, 3, 4] 0 ds' (spFr0 c [t]) =
    some (.normal, spFr c 3 [[1, 0], [2, 0], [3, 0]] 4 1 ds', [decide (0 < c.t) = true, 2 ≤ 9223372036854775807, 3 * 16 ≤ 140737488355328, 3 ≤ 9223372036854775807]) := by kernel_rfl
theorem sp_1 : run E3 5 (spB [1,1,1,0,1,0,0]) [0, 4, 5] [1, 3, 4] 0 ds' (spFr c n l 4 i [t]) =
    some (.normal, spFr c (addN n 1) (l ++ [[3, i]]) 4 (w64 (i + 1)) ds', [decide (i < c.t) = true, n = l.length, (n + 1) * 16 ≤ 140737488355328, n + 1 ≤ 9223372036854775807]) := by kernel_rfl
theorem sp_1e : run E3 5 (spB [1,1,1,0,1,0,0]) [0, 1, 2] [1, 3] 0 ds' (spFr c n l 4 i [f]) = some (.exit 0, spFrE c n l ds', [decide (i < c.t) = false]) := by kernel_rfl
theorem sp_12 : execR E3 5 (.exit 0) [.blk 0, .code (spB [1,1,1,1])] [0, 1, 2] [1, 3, 5] 0 ds' (spFrE c n l []) =
    some (.normal, [.code (.loop (spB [1,1,1,1,0,1,0,0])), .blk 2, .code (spB [1,1,1,1,1])], spFr c n l 5 0 ds', []) := by kernel_rfl
theorem sp_2 : run E3 5 (spB [1,1,1,1,0,1,0,0]) [0, 4, 5] [1, 3, 5] 0 ds' (spFr c n l 5 i [t]) =
    some (.normal, spFr c (addN n 4) (l ++ [[4, i], [5, i], [6, i], [7, i]]) 5 (w64 (i + 1)) ds', [decide (i < c.s) = true, n = l.length, (n + 4) * 16 ≤ 140737488355328, n + 4 ≤ 9223372036854775807]) := by kernel_rfl
theorem sp_2e : run E3 5 (spB [1,1,1,1,0,1,0,0]) [0, 1, 2] [1, 3] 0 ds' (spFr c n l 5 i [f]) = some (.exit 2, spFrE c n l ds', [decide (i < c.s) = false]) := by kernel_rfl
theorem sp_23 : execR E3 5 (.exit 2) [.blk 2, .code (spB [1,1,1,1,1])] [0, 1, 2] [1, 3, 6] 0 ds' (spFrE c n l []) =
    some (.normal, [.code (.loop (spB [1,1,1,1,1,0,1,0,0])), .blk 4, .code (spB [1,1,1,1,1,1])], spFr c n l 6 0 ds', []) := by kernel_rfl
theorem sp_3 : run E3 5 (spB [1,1,1,1,1,0,1,0,0]) [0, 4, 5] [1, 3, 6] 0 ds' (spFr c n l 6 i [t]) =
    some (.normal, spFr c (addN n 1) (l ++ [[8, i]]) 6 (w64 (i + 1)) ds', [decide (i < c.k) = true, n = l.length, (n + 1) * 16 ≤ 140737488355328, n + 1 ≤ 9223372036854775807]) := by kernel_rfl
theorem sp_3e : run E3 5 (spB [1,1,1,1,1,0,1,0,0]) [0, 1, 2] [1, 3] 0 ds' (spFr c n l 6 i [f]) = some (.exit 4, spFrE c n l ds', [decide (i < c.k) = false]) := by kernel_rfl
theorem sp_out : execR E3 5 (.exit 4) [.blk 4, .code (spB [1,1,1,1,1,1])] [1, 2] [2] 0 ds' (spFrE c n l []) =
    some (.ret, [], mkFr 53 [(2, .slice (some ⟨0, 0, some 1⟩) n 0)] [(0, .own (.recs [.i64, .i64] l spotT) 1)] 2 [] ds', []) := by kernel_rfl
end

theorem addN_add (a b : Nat) : addN a b = a + b := by
  unfold addN
  cases h : Nat.beq a 0
  · rfl
  · have := Nat.eq_of_beq_eq_true h
    subst this
    simp

open Dec in
theorem spots_ref (c : Cfg) (h : c.Right) : CallC Try.prog spotsF [c.v] ⟨[], 0, []⟩ (.slice (some ⟨0, 0, some 1⟩) c.spots.length 0) ⟨[(0, .own (.recs [.i64, .i64] c.spots spotT) 1)], 2, []⟩ := by
  have h' := h
  unfold Cfg.Right at h'
  obtain ⟨T, hT⟩ : ∃ T : Nat, c.t = (T : Int) := ⟨c.t.toNat, by omega⟩
  obtain ⟨Sn, hS⟩ : ∃ Sn : Nat, c.s = (Sn : Int) := ⟨c.s.toNat, by omega⟩
  obtain ⟨K, hK⟩ : ∃ K : Nat, c.k = (K : Int) := ⟨c.k.toNat, by omega⟩
  have hl : c.spots = spK T Sn K := by simp [Cfg.spots, hT, hS, hK]
  have z0 : ∀ (ns : List Nat) k, k < 0 → ns.getD k 0 = k := fun ns k hk => absurd hk (Nat.not_lt_zero k)
  have hw : ∀ i : Nat, i < 100 → w64 ((i : Int) + 1) = ((i + 1 : Nat) : Int) := fun i hi => by rw [w64_in (by omega) (by omega)]; omega
  refine CallC.of_body (E := E3) (ds := [f]) (fn := Try.f83) 52 (by kernel_rfl) (by kernel_rfl) (by kernel_rfl) (by kernel_rfl) ?_
  refine KC.of_exec E3ok (sp_in c [t]) (by simp [rightB, h]) (Nat.zero_le _) (z0 _) ?_
  -- threads
  refine KC.loop (m0 := 0) (fun i : Nat => if i = 0 then spFr0 c [t] else spFr c (2 + i) (spT i) 4 i (if i < T then [t] else [f])) (fun i => i ≤ T) (fun i => T - i) (fun ex fr => ex = .exit 0 ∧ fr = spFrE c (2 + T) (spT T) []) (fun i hi => ?_) ?_ 0 (Nat.zero_le _)
  · by_cases hi0 : i = 0
    · subst hi0
      rw [if_pos rfl]
      refine CodeC.of_run E3ok (sp_1z c (if 1 < T then [t] else [f])) ?_ (Nat.zero_le _) (z0 _) (.inl ⟨rfl, 1, rfl, by omega, by omega⟩)
      exact pcs_of ⟨decide_eq_true (by omega), by omega, by omega, by omega, trivial⟩
    · rw [if_neg hi0]
      by_cases hlt : i < T
      · rw [if_pos hlt]
        refine CodeC.of_run E3ok (sp_1 c (2 + i) (spT i) i (if i + 1 < T then [t] else [f])) ?_ (Nat.zero_le _) (z0 _) (.inl ⟨rfl, i + 1, ?_, by omega, by omega⟩)
        · exact pcs_of ⟨decide_eq_true (by omega), (spT_len i).symm, by omega, by omega, trivial⟩
        · rw [if_neg (Nat.succ_ne_zero i), spT_succ, addN_add, hw i (by omega), Nat.add_assoc]
      · rw [if_neg hlt]
        have : i = T := by omega
        subst this
        refine CodeC.of_run E3ok (sp_1e c (2 + i) (spT i) i []) ?_ (Nat.zero_le _) (z0 _) (.inr ⟨by simp, rfl, rfl⟩)
        exact pcs_of ⟨decide_eq_false (by omega), trivial⟩
  rintro ex fr1 ⟨rfl, rfl⟩
  refine KC.of_exec E3ok (sp_12 c (2 + T) (spT T) [t]) (by simp) (Nat.zero_le _) (z0 _) ?_
  -- slots
  have e0 : spFr c (2 + T) (spT T) 5 0 [t] = spFr c (2 + T + 4 * 0) (spS T 0) 5 (0 : Nat) (if 0 < Sn then [t] else [f]) := by
    rw [if_pos (by omega)]
    simp [spS]
  rw [e0]
  refine KC.loop (m0 := 0) (fun i : Nat => spFr c (2 + T + 4 * i) (spS T i) 5 i (if i < Sn then [t] else [f])) (fun i => i ≤ Sn) (fun i => Sn - i) (fun ex fr => ex = .exit 2 ∧ fr = spFrE c (2 + T + 4 * Sn) (spS T Sn) []) (fun i hi => ?_) ?_ 0 (Nat.zero_le _)
  · by_cases hlt : i < Sn
    · simp only [if_pos hlt]
      refine CodeC.of_run E3ok (sp_2 c (2 + T + 4 * i) (spS T i) i (if i + 1 < Sn then [t] else [f])) ?_ (Nat.zero_le _) (z0 _) (.inl ⟨rfl, i + 1, ?_, by omega, by omega⟩)
      · exact pcs_of ⟨decide_eq_true (by omega), (spS_len T i).symm, by omega, by omega, trivial⟩
      rw [spS_succ, addN_add, hw i (by omega), Nat.mul_add, Nat.mul_one, Nat.add_assoc]
    · simp only [if_neg hlt]
      have : i = Sn := by omega
      subst this
      refine CodeC.of_run E3ok (sp_2e c (2 + T + 4 * i) (spS T i) i []) ?_ (Nat.zero_le _) (z0 _) (.inr ⟨by simp, rfl, rfl⟩)
      exact pcs_of ⟨decide_eq_false (by omega), trivial⟩
  rintro ex fr1 ⟨rfl, rfl⟩
  refine KC.of_exec E3ok (sp_23 c (2 + T + 4 * Sn) (spS T Sn) [t]) (by simp) (Nat.zero_le _) (z0 _) ?_
  -- keys
  have e1 : spFr c (2 + T + 4 * Sn) (spS T Sn) 6 0 [t] = spFr c (2 + T + 4 * Sn + 0) (spK T Sn 0) 6 (0 : Nat) (if 0 < K then [t] else [f]) := by
    rw [if_pos (by omega)]
    simp [spK]
  rw [e1]
  refine KC.loop (m0 := 0) (fun i : Nat => spFr c (2 + T + 4 * Sn + i) (spK T Sn i) 6 i (if i < K then [t] else [f])) (fun i => i ≤ K) (fun i => K - i) (fun ex fr => ex = .exit 4 ∧ fr = spFrE c (2 + T + 4 * Sn + K) (spK T Sn K) []) (fun i hi => ?_) ?_ 0 (Nat.zero_le _)
  · by_cases hlt : i < K
    · simp only [if_pos hlt]
      refine CodeC.of_run E3ok (sp_3 c (2 + T + 4 * Sn + i) (spK T Sn i) i (if i + 1 < K then [t] else [f])) ?_ (Nat.zero_le _) (z0 _) (.inl ⟨rfl, i + 1, ?_, by omega, by omega⟩)
      · exact pcs_of ⟨decide_eq_true (by omega), (spK_len T Sn i).symm, by omega, by omega, trivial⟩
      rw [spK_succ, addN_add, hw i (by omega), Nat.add_assoc]
    · simp only [if_neg hlt]
      have : i = K := by omega
      subst this
      refine CodeC.of_run E3ok (sp_3e c (2 + T + 4 * Sn + i) (spK T Sn i) i []) ?_ (Nat.zero_le _) (z0 _) (.inr ⟨by simp, rfl, rfl⟩)
      exact pcs_of ⟨decide_eq_false (by omega), trivial⟩
  rintro ex fr1 ⟨rfl, rfl⟩
  refine KC.of_exec E3ok (sp_out c (2 + T + 4 * Sn + K) (spK T Sn K) []) (by simp) (Nat.zero_le _) (z0 _) (KC.done ⟨by simp, [.slice (some ⟨0, 0, some 1⟩) (2 + T + 4 * Sn + K) 0], [], [0, 1], 0, by kernel_rfl, by simp, ?_, rfl, z0 _⟩)
  rw [hl, spK_len]
  kernel_rfl
end Go.Proofs.Ytcpkieahnkfpoaa.Ct
