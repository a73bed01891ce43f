/- What the laws of the store share. -/
import Derived.Test.YtocfhiafegkfkaaGreatCtAlive
import Derived.Test.YtocfhiafegkfkaaGreatEvOpen5
namespace Go.Proofs.YtocfhiafegkfkaaGreat.Ct
open Go Go.Proofs Go.Proofs.YtocfhiafegkfkaaGreat.Ev
open Go.RowKit

def told (r : Option Out) : Option (Value × List Prop) :=
  match r with
  | some o => some (o.v, o.pc)
  | none => none
theorem told_some {r : Option Out} {v : Value} {pc : List Prop} (h : told r = some (v, pc)) : ∃ o, r = some o ∧ o.v = v ∧ o.pc = pc := by
  cases r with
  | none => cases h
  | some o =>
    simp only [told, Option.some.injEq, Prod.mk.injEq] at h
    exact ⟨o, rfl, h.1, h.2⟩
theorem w_u64 {n : Int} (h0 : 0 ≤ n) (h1 : n ≤ 18446744073709551615) : u64 n = n := by
  unfold u64
  rw [IntKind.wrap_u64]
  omega
/-- A place among the cells, drawn by a number. -/
def kI (l : List Int) (z0 : Int) : Int := w64 (Int.tmod z0 (u64 (l.length : Int)))
def ixI (c : Cfg) (k : Int) : Int := cellIx c (kindAt c k) (numAt c k)
def jI (i : Int) : Nat := addN 0 (mulN i.toNat 1)
def jV (off : Nat) (k : Int) : Nat := addN off (mulN k.toNat 1) - off
def l0 (l : List Int) : List Int := l.take (Nat.min l.length (Int.toNat (l.length : Int))) ++ (List.replicate (Int.toNat (l.length : Int)) 0).drop (Nat.min l.length (Int.toNat (l.length : Int)))
theorem jI_eq (i : Int) : jI i = i.toNat := by unfold jI; rw [addN_eq, mulN_eq]; omega
theorem jV_eq (off : Nat) (k : Int) : jV off k = k.toNat := by unfold jV; rw [addN_eq, mulN_eq]; omega
theorem l0_eq (l : List Int) : l0 l = l := by unfold l0; simp
/-- What had to hold when a memory, and the document's, was made of some words. -/
def ofPc (c : Cfg) (l : List Int) (off : Nat) : List Prop :=
  [(!rightB c) = false, c.Right, ((l.length : Int) != c.len) = false, (c.len == 0) = false, ((l.length : Int) != c.len) = false, 0 ≤ (l.length : Int), 8 * (l.length : Int) ≤ 281474976710656, (l.length : Int) ≤ 9223372036854775807,
    Nat.min l.length (Int.toNat (l.length : Int)) ≤ l.length, Nat.min l.length (Int.toNat (l.length : Int)) ≤ (List.replicate (Int.toNat (l.length : Int)) (0 : Int)).length, off = off, l.length ≤ l.length, off = off, (0 + l.length) * 8 ≤ 140737488355328, 0 + l.length ≤ 9223372036854775807]
theorem Cfg.len_in {c : Cfg} (h : c.Right) : 5 ≤ c.len ∧ c.len ≤ 66 := by
  have h' := h
  unfold Cfg.Right at h'
  unfold Cfg.len
  rw [if_pos h]
  omega
theorem ofPc_ok {c : Cfg} {l : List Int} (off : Nat) (hr : c.Right) (hlen : (l.length : Int) = c.len) : ∀ p ∈ ofPc c l off, p := by
  have hl := Cfg.len_in hr
  have q2 : (c.len == 0) = false := by
    rw [beq_eq_false_iff_ne]
    omega
  exact pcs_of ⟨by simp [rightB, hr], hr, by simp [hlen], q2, by simp [hlen], by omega, by omega, by omega, Nat.min_le_left _ _, by simp, rfl, Nat.le_refl _, rfl, by omega, by omega, trivial⟩
theorem pcs_app {a b : List Prop} (ha : ∀ p ∈ a, p) (hb : ∀ p ∈ b, p) : ∀ p ∈ a ++ b, p := fun p hp => (List.mem_append.1 hp).elim (ha p) (hb p)
/-- A place that is drawn lies among the cells. -/
theorem kI_in {c : Cfg} {l : List Int} {z0 : Int} (hr : c.Right) (hlen : (l.length : Int) = c.len) (h0 : 0 ≤ z0) : u64 (l.length : Int) ≠ 0 ∧ 0 ≤ kI l z0 ∧ kI l z0 < c.len ∧ ixI c (kI l z0) = kI l z0 := by
  have hl := Cfg.len_in hr
  have eu : u64 (l.length : Int) = (l.length : Int) := w_u64 (by omega) (by omega)
  have k0 : 0 ≤ Int.tmod z0 (l.length : Int) := Int.tmod_nonneg _ h0
  have k1 : Int.tmod z0 (l.length : Int) < (l.length : Int) := Int.tmod_lt_of_pos _ (by omega)
  have hk : kI l z0 = Int.tmod z0 (l.length : Int) := by unfold kI; rw [eu, w64_in (by omega) (by omega)]
  refine ⟨by rw [eu]; omega, by omega, by omega, cellIx_at hr (by omega) (by omega)⟩
/-- The value of a slice that was handed in, and what is said of it where it is not looked into. -/
def anyA (a : Option Addr) : Option Addr := a.map fun x => ⟨0, x.off, none⟩
theorem anyA_rel (a : Option Addr) (ρ' : Nat → Nat) (n cap : Nat) (h : ρ' 0 = (a.map Addr.block).getD 0) : ren ρ' (.slice (anyA a) n cap) = .slice (a.map fun x => ⟨x.block, x.off, none⟩) n cap := by
  cases a with
  | none => rfl
  | some x => simp [anyA, ren, h]
theorem view_isV {off : Nat} {b : Blk} {log : List Nat} {nx : Nat} : ∀ k d, (⟨[(0, .view off b)], nx, log⟩ : Hp).get k = some d → d.isV = true := fun k d hd => by
  simp only [Hp.get, lookB] at hd
  cases hn : Nat.beq 0 k
  · simp [hn] at hd
  · simp only [hn, cond_true, Option.some.injEq] at hd
    subst hd
    rfl
theorem none_isV {log : List Nat} {nx : Nat} : ∀ k d, (⟨[], nx, log⟩ : Hp).get k = some d → d.isV = true := fun k d hd => by simp [Hp.get, lookB] at hd
theorem Cfg.ren_v (c : Cfg) (ρ : Nat → Nat) : ren ρ c.v = c.v := by simp [Cfg.v, Cfg.cells, ren, renA, renL]
end Go.Proofs.YtocfhiafegkfkaaGreat.Ct
