/- What 'StoreAdds' comes to, of any input: it returns true and changes nothing that was there. -/
import Derived.Test.YtcpkieahnkfpoaaCtAlive
import Derived.Test.YtcpkieahnkfpoaaEvOpen
namespace Go.Proofs.Ytcpkieahnkfpoaa.StoreAddsDone
open Go Go.Proofs Go.Proofs.Ytcpkieahnkfpoaa.Ev Go.Proofs.Ytcpkieahnkfpoaa.Ct
open Go.RowKit

/-! ### What the evaluator says -/
def kI (l : List Int) (z0 : Int) : Int := w64 (Int.tmod z0 (u64 (l.length : Int)))
def ixI (c : Cfg) (k : Int) : Int := cellIx c (kindAt c k) (numAt c k)
def jI (i : Int) : Nat := addN 0 (mulN i.toNat 1)
def jV (off : Nat) (k : Int) : Nat := addN off (mulN k.toNat 1) - off
def l0 (l : List Int) : List Int := l.take (Nat.min l.length (Int.toNat (l.length : Int))) ++ (List.replicate (Int.toNat (l.length : Int)) 0).drop (Nat.min l.length (Int.toNat (l.length : Int)))
def addL (l : List Int) (j : Nat) (z : Int) : List Int := l.set j (u64 (l.getD j 0 + z))
def told (r : Option Out) : Option (Value × List Prop) :=
  match r with
  | some o => some (o.v, o.pc)
  | none => none
theorem told_some {r : Option Out} {v : Value} {pc : List Prop} (h : told r = some (v, pc)) : ∃ o, r = some o ∧ o.v = v ∧ o.pc = pc := by
  cases r with
  | none => cases h
  | some o =>
    simp only [told, Option.some.injEq, Prod.mk.injEq] at h
    exact ⟨o, rfl, h.1, h.2⟩
open Dec in
section
variable (c : Cfg) (l : List Int) (off cap : Nat) (z0 z1 z2 : Int)
abbrev args (a : Option Addr) (n cap : Nat) : List Value := [c.v, .slice a n cap, .agg ⟨[.int .u64 z0, .int .u64 z1, .int .u64 z2]⟩]
theorem main_path : told (doCall E7 20 8 (args c z0 z1 z2 (some ⟨0, off, none⟩) l.length cap) ⟨[(0, .view off (.ints .u64 l 22))], 1, []⟩ [f, f, f, f, Dec.l, Dec.l, t, t, Dec.l, t, t, t]) =
    some (.bool ((addL (addL (l0 l) (jI (ixI c (kI l z0))) z1) (jI (ixI c (kI l z0))) z2).getD (jI (ixI c (kI l z0))) 0 == u64 (u64 (l.getD (jV off (kI l z0)) 0 + z1) + z2)),
    [(!rightB c) = false, c.Right, ((l.length : Int) != c.len) = false, (c.len == 0) = false, ((l.length : Int) != c.len) = false, 0 ≤ (l.length : Int), 8 * (l.length : Int) ≤ 281474976710656, (l.length : Int) ≤ 9223372036854775807,
      Nat.min l.length (Int.toNat (l.length : Int)) ≤ l.length, Nat.min l.length (Int.toNat (l.length : Int)) ≤ (List.replicate (Int.toNat (l.length : Int)) (0 : Int)).length, off = off, l.length ≤ l.length, off = off, (0 + l.length) * 8 ≤ 140737488355328, 0 + l.length ≤ 9223372036854775807,
      (0 : Int) ≤ 0, (0 : Int) < 3, u64 (l.length : Int) ≠ 0, c.Right ∧ 0 ≤ kI l z0 ∧ kI l z0 < c.len,
      (0 : Int) ≤ 1, (1 : Int) < 3, decide (ixI c (kI l z0) ≥ 0) = true, 0 ≤ ixI c (kI l z0), ixI c (kI l z0) < ((Int.toNat (l.length : Int) : Nat) : Int), jI (ixI c (kI l z0)) < (l0 l).length, 0 ≤ ixI c (kI l z0), ixI c (kI l z0) < ((Int.toNat (l.length : Int) : Nat) : Int), jI (ixI c (kI l z0)) < (l0 l).length,
      (0 : Int) ≤ 2, (2 : Int) < 3, decide (ixI c (kI l z0) ≥ 0) = true, 0 ≤ ixI c (kI l z0), ixI c (kI l z0) < ((Int.toNat (l.length : Int) : Nat) : Int), jI (ixI c (kI l z0)) < (addL (l0 l) (jI (ixI c (kI l z0))) z1).length, 0 ≤ ixI c (kI l z0), ixI c (kI l z0) < ((Int.toNat (l.length : Int) : Nat) : Int), jI (ixI c (kI l z0)) < (addL (l0 l) (jI (ixI c (kI l z0))) z1).length,
      0 ≤ kI l z0, kI l z0 < (l.length : Int), off ≤ addN off (mulN (kI l z0).toNat 1), jV off (kI l z0) < l.length, ((l0 l).getD (jI (ixI c (kI l z0))) 0 == l.getD (jV off (kI l z0)) 0) = true,
      (0 : Int) ≤ 1, (1 : Int) < 3, ((addL (l0 l) (jI (ixI c (kI l z0))) z1).getD (jI (ixI c (kI l z0))) 0 == u64 ((l0 l).getD (jI (ixI c (kI l z0))) 0 + z1)) = true,
      decide (ixI c (kI l z0) ≥ 0) = true, 0 ≤ ixI c (kI l z0), ixI c (kI l z0) < ((Int.toNat (l.length : Int) : Nat) : Int), jI (ixI c (kI l z0)) < (addL (addL (l0 l) (jI (ixI c (kI l z0))) z1) (jI (ixI c (kI l z0))) z2).length, 0 ≤ ixI c (kI l z0), ixI c (kI l z0) < ((Int.toNat (l.length : Int) : Nat) : Int), jI (ixI c (kI l z0)) < (addL (addL (l0 l) (jI (ixI c (kI l z0))) z1) (jI (ixI c (kI l z0))) z2).length,
      0 ≤ kI l z0, kI l z0 < (l.length : Int), off ≤ addN off (mulN (kI l z0).toNat 1), jV off (kI l z0) < l.length, (0 : Int) ≤ 1, (1 : Int) < 3, (0 : Int) ≤ 2, (2 : Int) < 3]) := by kernel_rfl
theorem not_right (a : Option Addr) (n : Nat) : told (doCall E7 20 8 (args c z0 z1 z2 a n cap) ⟨[], 1, []⟩ [t, Dec.l, Dec.l]) = some (.bool true, [(!rightB c) = true]) := by kernel_rfl
theorem not_len (a : Option Addr) (n : Nat) : told (doCall E7 20 8 (args c z0 z1 z2 a n cap) ⟨[], 1, []⟩ [f, t, Dec.l]) = some (.bool true, [(!rightB c) = false, c.Right, ((n : Int) != c.len) = true]) := by kernel_rfl
end
theorem w_u64 {n : Int} (h0 : 0 ≤ n) (h1 : n ≤ 18446744073709551615) : u64 n = n := by
  unfold u64
  rw [IntKind.wrap_u64]
  omega

theorem walk (c : Cfg) (v : Value) (l : List Int) (z : List Int) (w : World) (hl : RowIn .u64 w v l) (hz : z.length = 3) (hzw : ∀ n ∈ z, (Lit.int .u64 n).wf = true) :
    Calls Try.prog 8 #[c.v, v, .agg ⟨z.map (.int .u64)⟩] w fun e w1 => e = .returned (.bool true) ∧ Below w.heap.size w w1 := by
  obtain ⟨z0, z1, z2, rfl⟩ : ∃ z0 z1 z2, z = [z0, z1, z2] := by
    match z, hz with
    | [z0, z1, z2], _ => exact ⟨z0, z1, z2, rfl⟩
  have hz0 := bounds_u64 (hzw z0 (by simp))
  by_cases h : c.Right ∧ (l.length : Int) = c.len
  · obtain ⟨hr, hlen⟩ := h
    have hr' := hr
    unfold Cfg.Right at hr'
    have hcl : c.len = 2 + c.t + 4 * c.s + c.k := if_pos hr
    rcases hl with ⟨_, rfl⟩ | ⟨b, off, cap, rfl, hcell, _⟩
    · simp at hlen
      omega
    · have hpos : 0 < l.length := by omega
      have eu : u64 (l.length : Int) = (l.length : Int) := w_u64 (by omega) (by omega)
      have k0 : 0 ≤ Int.tmod z0 (l.length : Int) := Int.tmod_nonneg _ hz0.1
      have k1 : Int.tmod z0 (l.length : Int) < (l.length : Int) := Int.tmod_lt_of_pos _ (by omega)
      have hk0 : 0 ≤ kI l z0 := by unfold kI; rw [eu, w64_in (by omega) (by omega)]; exact k0
      have hk1 : kI l z0 < c.len := by unfold kI; rw [eu, w64_in (by omega) (by omega)]; omega
      obtain ⟨o, ho, hov, hopc⟩ := told_some (main_path c l off cap z0 z1 z2)
      have hix : ixI c (kI l z0) = kI l z0 := cellIx_at hr hk0 hk1
      rw [hix] at hov hopc
      generalize hK : kI l z0 = K at *
      have ej : jI K = K.toNat := by unfold jI; rw [addN_eq, mulN_eq]; omega
      have ev : jV off K = K.toNat := by unfold jV; rw [addN_eq, mulN_eq]; omega
      have el : l0 l = l := by unfold l0; simp
      rw [ej, ev, el] at hov hopc
      have hj : K.toNat < l.length := by omega
      have ha : ∀ (m : List Int) (y : Int), m.length = l.length → (addL m K.toNat y).length = l.length ∧ (addL m K.toNat y).getD K.toNat 0 = u64 (m.getD K.toNat 0 + y) := fun m y hm => by
        unfold addL
        refine ⟨by simp [hm], ?_⟩
        rw [List.getD_eq_getElem?_getD, List.getElem?_set_self (by omega)]
        rfl
      obtain ⟨a1, a2⟩ := ha l z1 rfl
      obtain ⟨b1, b2⟩ := ha _ z2 a1
      have hov' : o.v = .bool true := by
        rw [hov, b2, a2]
        simp
      have := calls_of_path E7ok 20 ho (ρ := fun _ => b) (w := w) (cargs := [c.v, .slice (some ⟨b, off, none⟩) l.length cap, .agg ⟨[.int .u64 z0, .int .u64 z1, .int .u64 z2]⟩]) ?_ (by rw [hov']; rfl) (fun n d hd => ?_) (fun ρ' ha => ?_) (HR_row hcell hpos)
      · rw [hov'] at this
        exact this
      · rw [hopc]
        refine pcs_of ?_
        simp only [allP, a1, b1, a2]
        have q0 : (!rightB c) = false := by simp [rightB, hr]
        have q1 : ((l.length : Int) != c.len) = false := by simp [hlen]
        have q2 : (c.len == 0) = false := by
          rw [beq_eq_false_iff_ne]
          omega
        have q3 := Nat.min_le_left l.length (Int.toNat (l.length : Int))
        have q4 : Nat.min l.length (Int.toNat (l.length : Int)) ≤ (List.replicate (Int.toNat (l.length : Int)) (0 : Int)).length := by simp
        have q5 : u64 (l.length : Int) ≠ 0 := by
          rw [eu]
          omega
        have q7 : decide (K ≥ 0) = true := decide_eq_true hk0
        have q9 : off ≤ addN off (mulN K.toNat 1) := by
          rw [addN_eq]
          omega
        clear hov hopc ho ha hcell hov'
        and_intros
        all_goals first | assumption | exact trivial | exact beq_self_eq_true _ | omega
      · simp only [Hp.get, lookB] at hd
        cases hn : Nat.beq 0 n
        · simp [hn] at hd
        · simp only [hn, cond_true, Option.some.injEq] at hd
          subst hd
          rfl
      · have : ρ' 0 = b := ha 0 Nat.zero_lt_one
        simp [args, Cfg.v, Cfg.cells, ren, renA, renL, renAddr, this]
  · have hno : ∀ (a : Option Addr) (n cap : Nat), v = .slice (a.map fun x => ⟨x.block, x.off, none⟩) n cap → n = l.length → Calls Try.prog 8 #[c.v, v, .agg ⟨[.int .u64 z0, .int .u64 z1, .int .u64 z2]⟩] w fun e w1 => e = .returned (.bool true) ∧ Below w.heap.size w w1 := by
      intro a n cap hv hn
      have hargs : VRL (fun k => k < 1) (fun _ => (a.map Addr.block).getD 0) (args c z0 z1 z2 (a.map fun x => ⟨0, x.off, none⟩) n cap) [c.v, v, .agg ⟨[.int .u64 z0, .int .u64 z1, .int .u64 z2]⟩] := fun ρ' ha => by
        have : ρ' 0 = (a.map Addr.block).getD 0 := ha 0 Nat.zero_lt_one
        subst hv
        cases a with
        | none => simp [args, Cfg.v, Cfg.cells, ren, renA, renL]
        | some x => simp [args, Cfg.v, Cfg.cells, ren, renA, renL, renAddr, this]
      by_cases hr : c.Right
      · have hlen : (n : Int) ≠ c.len := fun e => h ⟨hr, by rw [← hn]; exact e⟩
        obtain ⟨o, ho, hov, hopc⟩ := told_some (not_len c cap z0 z1 z2 (a.map fun x => ⟨0, x.off, none⟩) n)
        have := calls_of_path E7ok 20 ho (w := w) (by rw [hopc]; exact pcs_of ⟨by simp [rightB, hr], hr, by simpa using hlen, trivial⟩) (by rw [hov]; rfl) (fun n d hd => by simp [Hp.get, lookB] at hd) hargs (HR_none _ 1)
        rw [hov] at this
        exact this
      · obtain ⟨o, ho, hov, hopc⟩ := told_some (not_right c cap z0 z1 z2 (a.map fun x => ⟨0, x.off, none⟩) n)
        have := calls_of_path E7ok 20 ho (w := w) (by rw [hopc]; exact pcs_of ⟨by simp [rightB, hr], trivial⟩) (by rw [hov]; rfl) (fun n d hd => by simp [Hp.get, lookB] at hd) hargs (HR_none _ 1)
        rw [hov] at this
        exact this
    rcases hl with ⟨rfl, rfl⟩ | ⟨b, off, cap, rfl, _, _⟩
    · exact hno none 0 0 rfl rfl
    · exact hno (some ⟨b, off, none⟩) l.length cap rfl rfl
end Go.Proofs.Ytcpkieahnkfpoaa.StoreAddsDone
