/- The laws of a world, some words, and a play of which a row of numbers and pokes are parts. -/
import Derived.Test.YtmliekdbhefpkaaCtAl10
namespace Go.Proofs.Ytmliekdbhefpkaa.Ct
open Go Go.Proofs Go.Proofs.Ytmliekdbhefpkaa.Ev
open Go.RowKit

inductive Ik where
  | nil
  | row (of1 cap : Nat) (l : List Int)
def Ik.sv (n : Nat) : Ik → Value
  | .nil => .slice none 0 0
  | .row of1 cap l => .slice (some ⟨n, of1, none⟩) l.length cap
def Ik.blk (n : Nat) : Ik → List (Nat × Blk)
  | .nil => []
  | .row of1 _ l => [(n, .view of1 (.ints .i64 l intT))]
def Ik.l : Ik → List Int
  | .nil => []
  | .row _ _ l => l
def p3 (ik : Ik) (pk : Pk) : List (Nat × Blk) := ik.blk 1 ++ pk.blk 2
def p3Hp (l : List Int) (off : Nat) (ik : Ik) (pk : Pk) : Hp := ⟨(0, .view off (.ints .u64 l u64T)) :: p3 ik pk, 3, []⟩
theorem ik_of {w : World} {s1 : Value} {l1 : List Int} (h : RowIn .i64 w s1 l1) : ∃ (ik : Ik) (b1 : Nat), ik.l = l1 ∧ (∀ ρ' : Nat → Nat, ρ' 1 = b1 → ren ρ' (ik.sv 1) = s1) ∧ ∀ n b, lookB n (ik.blk 1) = some b → n = 1 ∧ b.isV = true ∧ ∃ o, w.heap[b1]? = some o ∧ ∀ ρ', b.sat ρ' o := by
  rcases h with ⟨rfl, rfl⟩ | ⟨b, off, cap, rfl, hcell, _, hblk⟩
  · exact ⟨.nil, 0, rfl, fun _ _ => rfl, fun n b h => by simp [Ik.blk, lookB] at h⟩
  · refine ⟨.row off cap l1, b, rfl, fun ρ' h => by simp [Ik.sv, ren, h], fun n b' h => ?_⟩
    simp only [Ik.blk, lookB] at h
    cases hn : Nat.beq 1 n
    · simp [hn] at h
    · simp only [hn, cond_true, Option.some.injEq] at h
      subst h
      exact ⟨(beq_nat hn).symm, rfl, sat_ints hcell hblk⟩
theorem pk_of {w : World} {s2 : Value} {rows : List (List Int)} (h : RowR pkK w s2 rows) : ∃ (pk : Pk) (b2 : Nat), pk.good ∧ (∀ ρ' : Nat → Nat, ρ' 2 = b2 → ren ρ' (pk.sv 2) = s2) ∧ ∀ n b, lookB n (pk.blk 2) = some b → n = 2 ∧ b.isV = true ∧ ∃ o, w.heap[b2]? = some o ∧ ∀ ρ', b.sat ρ' o := by
  have hg := h
  rcases h with ⟨rfl, rfl⟩ | ⟨b, off, cap, rfl, hcell, _, hblk⟩
  · exact ⟨.nil, 0, trivial, fun _ _ => rfl, fun n b h => by simp [Pk.blk, lookB] at h⟩
  · refine ⟨.row off cap rows, b, good_of hg (.inr ⟨off, cap, rfl⟩), fun ρ' h => by simp [Pk.sv, ren, h], fun n b' h => ?_⟩
    simp only [Pk.blk, lookB] at h
    cases hn : Nat.beq 2 n
    · simp [hn] at h
    · simp only [hn, cond_true, Option.some.injEq] at h
      subst h
      exact ⟨(beq_nat hn).symm, rfl, sat_recs hcell hblk⟩
theorem law_play3 {E E' : Env} (hE : EnvOk E) (hP : E.P = E'.P) {n : Nat} {f : FuncId} {c : Cfg} {v : Value} {l : List Int} {mk : Value → Value → List Value} (hmk : ∀ a b ρ, (mk a b).map (ren ρ) = mk (ren ρ a) (ren ρ b)) {s1 s2 : Value} {l1 : List Int} {rows : List (List Int)} {w : World} (hl : RowIn .u64 w v l) (h1 : RowIn .i64 w s1 l1) (h2 : RowR pkK w s2 rows)
    (hin : c.Right → (l.length : Int) = c.len → ∀ off cap (ik : Ik) (pk : Pk), ik.l = l1 → pk.good → ∃ hp1, CallC E'.P f [c.v, .slice (some ⟨0, off, none⟩) l.length cap, .agg ⟨mk (ik.sv 1) (pk.sv 2)⟩] (p3Hp l off ik pk) (.bool true) hp1)
    (hno : ∀ a (m cap : Nat) (ik : Ik) (pk : Pk), ik.l = l1 → (¬ c.Right ∨ c.Right ∧ (m : Int) ≠ c.len) → ∃ ds pc, told (doCall E n f [c.v, .slice a m cap, .agg ⟨mk (ik.sv 1) (pk.sv 2)⟩] ⟨p3 ik pk, 3, []⟩ ds) = some (.bool true, pc) ∧ ∀ p ∈ pc, p) :
    Calls E'.P f #[c.v, v, .agg ⟨mk s1 s2⟩] w fun e w1 => e = .returned (.bool true) ∧ Below w.heap.size w w1 := by
  obtain ⟨ik, b1, hil, hir, hib⟩ := ik_of h1
  obtain ⟨pk, b2, hpg, hpr, hpb⟩ := pk_of h2
  have hlook : ∀ n b, lookB n (p3 ik pk) = some b → n < 3 ∧ 0 < n ∧ b.isV = true ∧ ∃ o, w.heap[if n = 1 then b1 else b2]? = some o ∧ ∀ ρ', b.sat ρ' o := fun n b h => by
    unfold p3 at h
    rw [lookB_app] at h
    cases h1 : lookB n (ik.blk 1) with
    | some b' =>
      rw [h1] at h
      simp only [Option.some_or, Option.some.injEq] at h
      subst h
      obtain ⟨rfl, q1, q2⟩ := hib n b' h1
      exact ⟨by omega, by omega, q1, by rw [if_pos rfl]; exact q2⟩
    | none =>
      rw [h1] at h
      simp only [Option.none_or] at h
      obtain ⟨rfl, q1, q2⟩ := hpb n b h
      exact ⟨by omega, by omega, q1, by rw [if_neg (by omega)]; exact q2⟩
  by_cases h : c.Right ∧ (l.length : Int) = c.len
  · obtain ⟨hr, hlen⟩ := h
    have hcl := Cfg.len_in hr
    rcases hl with ⟨_, rfl⟩ | ⟨b, off, cap, rfl, hcell, _, hblk⟩
    · simp at hlen
      omega
    · obtain ⟨hp1, hC⟩ := hin hr hlen off cap ik pk hil hpg
      let ρ : Nat → Nat := fun k => if k = 0 then b else if k = 1 then b1 else b2
      have hargs : VRL (fun k => k < 3) ρ [c.v, .slice (some ⟨0, off, none⟩) l.length cap, .agg ⟨mk (ik.sv 1) (pk.sv 2)⟩] [c.v, .slice (some ⟨b, off, none⟩) l.length cap, .agg ⟨mk s1 s2⟩] := fun ρ' ha => by
        have e0 : ρ' 0 = b := ha 0 (by omega)
        have e1 : ρ' 1 = b1 := ha 1 (by omega)
        have e2 : ρ' 2 = b2 := ha 2 (by omega)
        simp only [List.map_cons, List.map_nil, Cfg.ren_v, ren_agg, hmk, hir ρ' e1, hpr ρ' e2]
        simp [ren, e0]
      have hget : ∀ k d, (p3Hp l off ik pk).get k = some d → k < 3 ∧ d.isV = true ∧ ∃ o, w.heap[ρ k]? = some o ∧ ∀ ρ', d.sat ρ' o := fun k d hd => by
        simp only [p3Hp, Hp.get, lookB] at hd
        cases hk : Nat.beq 0 k
        · simp only [hk, cond_false] at hd
          obtain ⟨q1, q2, q3, q4⟩ := hlook k d hd
          refine ⟨q1, q3, ?_⟩
          show ∃ o, w.heap[if k = 0 then b else if k = 1 then b1 else b2]? = some o ∧ _
          rw [if_neg (by omega)]
          exact q4
        · simp only [hk, cond_true, Option.some.injEq] at hd
          have := beq_nat hk
          subst this; subst hd
          exact ⟨by omega, rfl, sat_ints hcell hblk⟩
      exact calls_of_C hC rfl (fun k d hd => (hget k d hd).2.1) hargs (HR_views (hp := p3Hp l off ik pk) hget)
  · obtain ⟨a, cap, hv⟩ := row_any hl
    let ρ : Nat → Nat := fun k => if k = 0 then (a.map Addr.block).getD 0 else if k = 1 then b1 else b2
    have hargs : VRL (fun k => k < 3) ρ [c.v, .slice (anyB 0 a) l.length cap, .agg ⟨mk (ik.sv 1) (pk.sv 2)⟩] [c.v, v, .agg ⟨mk s1 s2⟩] := fun ρ' ha => by
      have e0 : ρ' 0 = (a.map Addr.block).getD 0 := ha 0 (by omega)
      have e1 : ρ' 1 = b1 := ha 1 (by omega)
      have e2 : ρ' 2 = b2 := ha 2 (by omega)
      rw [hv]
      simp only [List.map_cons, List.map_nil, Cfg.ren_v, anyB_rel 0 a ρ' _ _ e0, ren_agg, hmk, hir ρ' e1, hpr ρ' e2]
    have hget : ∀ k d, (⟨p3 ik pk, 3, []⟩ : Hp).get k = some d → k < 3 ∧ d.isV = true ∧ ∃ o, w.heap[ρ k]? = some o ∧ ∀ ρ', d.sat ρ' o := fun k d hd => by
      obtain ⟨q1, q2, q3, q4⟩ := hlook k d hd
      refine ⟨q1, q3, ?_⟩
      show ∃ o, w.heap[if k = 0 then _ else if k = 1 then b1 else b2]? = some o ∧ _
      rw [if_neg (by omega)]
      exact q4
    rw [← hP]
    have hcase : ¬ c.Right ∨ c.Right ∧ (l.length : Int) ≠ c.len := by
      by_cases hr : c.Right
      · exact .inr ⟨hr, fun e => h ⟨hr, e⟩⟩
      · exact .inl hr
    obtain ⟨ds, pc, q1, q2⟩ := hno (anyB 0 a) l.length cap ik pk hil hcase
    exact true_of_path hE q1 q2 (fun k d hd => (hget k d hd).2.1) hargs (HR_views (hp := ⟨p3 ik pk, 3, []⟩) hget)
end Go.Proofs.Ytmliekdbhefpkaa.Ct
