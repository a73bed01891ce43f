/- What 'StoreSwaps' comes to, of any input: it returns true and changes nothing that was there. -/
import Derived.Test.YtcpkieahnkfpoaaCtCommon
namespace Go.Proofs.Ytcpkieahnkfpoaa.StoreSwapsDone
open Go Go.Proofs Go.Proofs.Ytcpkieahnkfpoaa.Ev Go.Proofs.Ytcpkieahnkfpoaa.Ct
open Go.RowKit

open Dec in
section
variable (c : Cfg) (l : List Int) (off cap : Nat) (z0 z1 z2 z3 : Int)
abbrev args (a : Option Addr) (n cap : Nat) : List Value := [c.v, .slice a n cap, .agg ⟨[.int .u64 z0, .int .u64 z1, .int .u64 z2, .int .u64 z3]⟩]
abbrev K : Int := kI l z0
abbrev IX : Int := ixI c (kI l z0)
abbrev J : Nat := jI (ixI c (kI l z0))
/-- The first access, the second one, and the rest. -/
def pcs (old1 old2 : Bool) (m : List Int) : List Prop :=
  ofPc c l off ++ [(0 : Int) ≤ 0, (0 : Int) < 4, u64 (l.length : Int) ≠ 0, c.Right ∧ 0 ≤ kI l z0 ∧ kI l z0 < c.len, (0 : Int) ≤ 1, (1 : Int) < 4, (0 : Int) ≤ 2, (2 : Int) < 4,
    decide (ixI c (kI l z0) ≥ 0) = true, 0 ≤ ixI c (kI l z0), ixI c (kI l z0) < ((Int.toNat (l.length : Int) : Nat) : Int), jI (ixI c (kI l z0)) < (l0 l).length, ((l0 l).getD (jI (ixI c (kI l z0))) 0 != z1) = old1, 0 ≤ ixI c (kI l z0), ixI c (kI l z0) < ((Int.toNat (l.length : Int) : Nat) : Int), jI (ixI c (kI l z0)) < (l0 l).length,
    (0 : Int) ≤ 1, (1 : Int) < 4, (0 : Int) ≤ 3, (3 : Int) < 4,
    decide (ixI c (kI l z0) ≥ 0) = true, 0 ≤ ixI c (kI l z0), ixI c (kI l z0) < ((Int.toNat (l.length : Int) : Nat) : Int), jI (ixI c (kI l z0)) < m.length, (m.getD (jI (ixI c (kI l z0))) 0 != z1) = old2, 0 ≤ ixI c (kI l z0), ixI c (kI l z0) < ((Int.toNat (l.length : Int) : Nat) : Int), jI (ixI c (kI l z0)) < m.length,
    0 ≤ kI l z0, kI l z0 < (l.length : Int), off ≤ addN off (mulN (kI l z0).toNat 1), jV off (kI l z0) < l.length, (0 : Int) ≤ 1, (1 : Int) < 4]
theorem path_tt : told (doCall E7 20 7 (args c z0 z1 z2 z3 (some ⟨0, off, none⟩) l.length cap) ⟨[(0, .view off (.ints .u64 l 22))], 1, []⟩ [f, f, f, f, Dec.l, Dec.l, t, f, t, f, Dec.l, t, Dec.l, Dec.l, Dec.l]) =
    some (.bool (true == (z2 == z1)), pcs c l off z0 z1 false false ((l0 l).set (jI (ixI c (kI l z0))) z2) ++ [(true == (l.getD (jV off (kI l z0)) 0 == z1)) = true, (0 : Int) ≤ 2, (2 : Int) < 4, (0 : Int) ≤ 1, (1 : Int) < 4]) := by kernel_rfl
theorem path_tf : told (doCall E7 20 7 (args c z0 z1 z2 z3 (some ⟨0, off, none⟩) l.length cap) ⟨[(0, .view off (.ints .u64 l 22))], 1, []⟩ [f, f, f, f, Dec.l, Dec.l, t, f, t, t, Dec.l, t, Dec.l, Dec.l, Dec.l]) =
    some (.bool (false == (z2 == z1)), pcs c l off z0 z1 false true ((l0 l).set (jI (ixI c (kI l z0))) z2) ++ [(true == (l.getD (jV off (kI l z0)) 0 == z1)) = true, (0 : Int) ≤ 2, (2 : Int) < 4, (0 : Int) ≤ 1, (1 : Int) < 4]) := by kernel_rfl
theorem path_ff : told (doCall E7 20 7 (args c z0 z1 z2 z3 (some ⟨0, off, none⟩) l.length cap) ⟨[(0, .view off (.ints .u64 l 22))], 1, []⟩ [f, f, f, f, Dec.l, Dec.l, t, t, t, t, Dec.l, t, Dec.l, Dec.l, Dec.l]) =
    some (.bool true, pcs c l off z0 z1 true true ((l0 l).set (jI (ixI c (kI l z0))) ((l0 l).getD (jI (ixI c (kI l z0))) 0)) ++ [(false == (l.getD (jV off (kI l z0)) 0 == z1)) = true]) := by kernel_rfl
theorem not_right (a : Option Addr) (n : Nat) : told (doCall E7 20 7 (args c z0 z1 z2 z3 a n cap) ⟨[], 1, []⟩ [t, Dec.l, Dec.l]) = some (.bool true, [(!rightB c) = true]) := by kernel_rfl
theorem not_len (a : Option Addr) (n : Nat) : told (doCall E7 20 7 (args c z0 z1 z2 z3 a n cap) ⟨[], 1, []⟩ [f, t, Dec.l]) = some (.bool true, [(!rightB c) = false, c.Right, ((n : Int) != c.len) = true]) := by kernel_rfl
end
theorem pcs_ok {c : Cfg} {l : List Int} (off : Nat) {z0 z1 : Int} {old1 old2 : Bool} {m : List Int} (hr : c.Right) (hlen : (l.length : Int) = c.len) (h0 : 0 ≤ z0) (hm : m.length = l.length) (h1 : (l.getD (kI l z0).toNat 0 != z1) = old1) (h2 : (m.getD (kI l z0).toNat 0 != z1) = old2) : ∀ p ∈ pcs c l off z0 z1 old1 old2 m, p := by
  obtain ⟨q1, q2, q3, q4⟩ := kI_in (z0 := z0) hr hlen h0
  refine pcs_app (ofPc_ok off hr hlen) (pcs_of ?_)
  rw [q4, jI_eq, jV_eq, l0_eq, addN_eq]
  generalize kI l z0 = K at *
  have q7 : decide (K ≥ 0) = true := decide_eq_true q2
  have hr' := hr
  unfold Cfg.Right at hr'
  simp only [allP, hm]
  and_intros
  all_goals first | assumption | exact trivial | omega

theorem walk (c : Cfg) (v : Value) (l : List Int) (z : List Int) (w : World) (hl : RowIn .u64 w v l) (hz : z.length = 4) (hzw : ∀ n ∈ z, (Lit.int .u64 n).wf = true) :
    Calls Try.prog 7 #[c.v, v, .agg ⟨z.map (.int .u64)⟩] w fun e w1 => e = .returned (.bool true) ∧ Below w.heap.size w w1 := by
  obtain ⟨z0, z1, z2, z3, rfl⟩ : ∃ z0 z1 z2 z3, z = [z0, z1, z2, z3] := by
    match z, hz with
    | [z0, z1, z2, z3], _ => exact ⟨z0, z1, z2, z3, rfl⟩
  have hz0 := bounds_u64 (hzw z0 (by simp))
  by_cases h : c.Right ∧ (l.length : Int) = c.len
  · obtain ⟨hr, hlen⟩ := h
    have hcl := Cfg.len_in hr
    rcases hl with ⟨_, rfl⟩ | ⟨b, off, cap, rfl, hcell, _⟩
    · simp at hlen
      omega
    · have hpos : 0 < l.length := by omega
      obtain ⟨q1, q2, q3, q4⟩ := kI_in (z0 := z0) hr hlen hz0.1
      have hj : (kI l z0).toNat < l.length := by omega
      have hargs : VRL (fun k => k < 1) (fun _ => b) (args c z0 z1 z2 z3 (some ⟨0, off, none⟩) l.length cap) [c.v, .slice (some ⟨b, off, none⟩) l.length cap, .agg ⟨[.int .u64 z0, .int .u64 z1, .int .u64 z2, .int .u64 z3]⟩] := fun ρ' ha => by
        have : ρ' 0 = b := ha 0 Nat.zero_lt_one
        simp [args, Cfg.ren_v, ren, renA, renL, renAddr, this]
      have go : ∀ (ds : List Dec) (vb : Bool) (pc : List Prop), told (doCall E7 20 7 (args c z0 z1 z2 z3 (some ⟨0, off, none⟩) l.length cap) ⟨[(0, .view off (.ints .u64 l 22))], 1, []⟩ ds) = some (.bool vb, pc) → vb = true → (∀ p ∈ pc, p) →
          Calls Try.prog 7 #[c.v, .slice (some ⟨b, off, none⟩) l.length cap, .agg ⟨[.int .u64 z0, .int .u64 z1, .int .u64 z2, .int .u64 z3]⟩] w fun e w1 => e = .returned (.bool true) ∧ Below w.heap.size w w1 := fun ds vb pc hd hv hpc => by
        obtain ⟨o, ho, hov, hopc⟩ := told_some hd
        have := calls_of_path E7ok 20 ho (w := w) (by rw [hopc]; exact hpc) (by rw [hov]; rfl) view_isV hargs (HR_row hcell hpos)
        rw [hov, hv] at this
        exact this
      by_cases h1 : l.getD (kI l z0).toNat 0 = z1
      · have hs : ((l0 l).set (jI (ixI c (kI l z0))) z2).getD (kI l z0).toNat 0 = z2 := by
          rw [l0_eq, jI_eq, q4, List.getD_eq_getElem?_getD, List.getElem?_set_self hj]
          rfl
        by_cases h2 : z2 = z1
        · refine go _ _ _ (path_tt c l off cap z0 z1 z2 z3) (by simp [h2]) (pcs_app (pcs_ok off hr hlen hz0.1 (by simp [l0_eq]) (by rw [h1]; exact bne_self_eq_false z1) (by rw [hs, h2]; exact bne_self_eq_false z1)) (pcs_of ⟨?_, by omega, by omega, by omega, by omega, trivial⟩))
          rw [jV_eq, h1]
          simp
        · refine go _ _ _ (path_tf c l off cap z0 z1 z2 z3) (by simp [h2]) (pcs_app (pcs_ok off hr hlen hz0.1 (by simp [l0_eq]) (by rw [h1]; exact bne_self_eq_false z1) (by rw [hs]; simpa using h2)) (pcs_of ⟨?_, by omega, by omega, by omega, by omega, trivial⟩))
          rw [jV_eq, h1]
          simp
      · have hs : ((l0 l).set (jI (ixI c (kI l z0))) ((l0 l).getD (jI (ixI c (kI l z0))) 0)).getD (kI l z0).toNat 0 = l.getD (kI l z0).toNat 0 := by
          rw [l0_eq, jI_eq, q4, List.getD_eq_getElem?_getD, List.getElem?_set_self hj]
          rfl
        refine go _ _ _ (path_ff c l off cap z0 z1 z2 z3) rfl (pcs_app (pcs_ok off hr hlen hz0.1 (by simp [l0_eq]) (by simpa using h1) (by rw [hs]; simpa using h1)) (pcs_of ⟨?_, trivial⟩))
        rw [jV_eq]
        simpa using h1
  · have hno : ∀ (a : Option Addr) (n cap : Nat), v = .slice (a.map fun x => ⟨x.block, x.off, none⟩) n cap → n = l.length → Calls Try.prog 7 #[c.v, v, .agg ⟨[.int .u64 z0, .int .u64 z1, .int .u64 z2, .int .u64 z3]⟩] w fun e w1 => e = .returned (.bool true) ∧ Below w.heap.size w w1 := by
      intro a n cap hv hn
      have hargs : VRL (fun k => k < 1) (fun _ => (a.map Addr.block).getD 0) (args c z0 z1 z2 z3 (anyA a) n cap) [c.v, v, .agg ⟨[.int .u64 z0, .int .u64 z1, .int .u64 z2, .int .u64 z3]⟩] := fun ρ' ha => by
        have : ρ' 0 = (a.map Addr.block).getD 0 := ha 0 Nat.zero_lt_one
        rw [hv]
        simp only [args, List.map_cons, List.map_nil, Cfg.ren_v, anyA_rel a ρ' n cap this]
        rfl
      by_cases hr : c.Right
      · have hlen : (n : Int) ≠ c.len := fun e => h ⟨hr, by rw [← hn]; exact e⟩
        obtain ⟨o, ho, hov, hopc⟩ := told_some (not_len c cap z0 z1 z2 z3 (anyA a) n)
        have := calls_of_path E7ok 20 ho (w := w) (by rw [hopc]; exact pcs_of ⟨by simp [rightB, hr], hr, by simpa using hlen, trivial⟩) (by rw [hov]; rfl) none_isV hargs (HR_none _ 1)
        rw [hov] at this
        exact this
      · obtain ⟨o, ho, hov, hopc⟩ := told_some (not_right c cap z0 z1 z2 z3 (anyA a) n)
        have := calls_of_path E7ok 20 ho (w := w) (by rw [hopc]; exact pcs_of ⟨by simp [rightB, hr], trivial⟩) (by rw [hov]; rfl) none_isV hargs (HR_none _ 1)
        rw [hov] at this
        exact this
    rcases hl with ⟨rfl, rfl⟩ | ⟨b, off, cap, rfl, _, _⟩
    · exact hno none 0 0 rfl rfl
    · exact hno (some ⟨b, off, none⟩) l.length cap rfl rfl
end Go.Proofs.Ytcpkieahnkfpoaa.StoreSwapsDone
