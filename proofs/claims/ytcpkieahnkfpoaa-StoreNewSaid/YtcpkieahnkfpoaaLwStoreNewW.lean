/- What 'StoreNew' comes to, of any input: it returns true and changes nothing that was there. -/
import Derived.Test.YtcpkieahnkfpoaaCtWorld
import Derived.Test.YtcpkieahnkfpoaaEvOpen2
namespace Go.Proofs.Ytcpkieahnkfpoaa.StoreNewDone
open Go Go.Proofs Go.Proofs.Ytcpkieahnkfpoaa.Ev Go.Proofs.Ytcpkieahnkfpoaa.Ct
open Go.RowKit

abbrev fid : FuncId := 5
def args (c : Cfg) (a : Option Addr) (n cap : Nat) : List Value := [c.v, .slice a n cap]
def Z (c : Cfg) : Nat := Int.toNat c.len
def zs (c : Cfg) : List Int := List.replicate (Z c) 0
def newM0 (c : Cfg) (N : Nat) (w : List Int) : Mm := ⟨c, N, N, ⟨0, 0, 0, 0, 0, false⟩, 0, w⟩
def mkP (c : Cfg) : List Prop := [0 ≤ c.len, 8 * c.len ≤ 281474976710656, c.len ≤ 9223372036854775807]
def newP (c : Cfg) : List Prop := mkP c ++ ([(c.len == 0) = false, ((Z c : Int) != c.len) = false] ++ cpNP (Z c) (zs c).length)
def cfgP (c : Cfg) : List Prop := [(!rightB c) = false, (!andL [c.t == c.t, c.s == c.s, c.k == c.k, c.g == c.g, c.q == c.q]) = false, c.Right]
def sameP (c : Cfg) (N : Nat) (l : List Int) : List Prop := [(newM0 c N (cpN l N)).ok, (0 : Nat) = 0, (0 : Nat) = 0, N ≤ (cpN l N).length, N ≤ l.length, N ≤ 9223372036854775806, ((cpN l N).take N == l.take N) = true]
open Dec in
section
variable (c : Cfg) (a : Option Addr) (n cap : Nat) (l : List Int) (off : Nat)
theorem not_right : told (doCall E11 20 fid (args c a n cap) ⟨[], 1, []⟩ [t, Dec.l, t, Dec.l, t, Dec.l, Dec.l, Dec.l, Dec.l, Dec.l]) = some (.bool true, mkP c ++ [(c.len == 0) = true, (c.len == 0) = true, (!rightB c) = true]) := by kernel_rfl
theorem not_len : told (doCall E11 20 fid (args c a n cap) ⟨[], 1, []⟩ [f, f, f, t, f, Dec.l, Dec.l, f, t, Dec.l, Dec.l, t, Dec.l, Dec.l, Dec.l, Dec.l]) =
    some (.bool true, newP c ++ ([(c.len == 0) = false, ((n : Int) != c.len) = true] ++ (cfgP c ++ (mkP c ++ (sameP c (Z c) (zs c) ++ [c.Right, ((n : Int) != c.len) = true]))))) := by kernel_rfl
theorem whole : told (doCall E11 20 fid (args c (some ⟨0, off, none⟩) l.length cap) ⟨[(0, .view off (.ints .u64 l u64T))], 1, []⟩ [f, f, f, f, f, Dec.l, Dec.l, f, t, Dec.l, Dec.l, f, Dec.l, Dec.l, Dec.l, t, t, Dec.l, Dec.l]) =
    some (.bool true, newP c ++ ([(c.len == 0) = false, ((l.length : Int) != c.len) = false, 0 ≤ (l.length : Int), 8 * (l.length : Int) ≤ 281474976710656, (l.length : Int) ≤ 9223372036854775807, Nat.min l.length (Int.toNat (l.length : Int)) ≤ l.length, Nat.min l.length (Int.toNat (l.length : Int)) ≤ (List.replicate (Int.toNat (l.length : Int)) (0 : Int)).length, off = off] ++ (cfgP c ++ (mkP c ++ (sameP c (Z c) (zs c) ++ [c.Right, ((l.length : Int) != c.len) = false,
      andL [c.t == c.t, c.s == c.s, c.k == c.k, c.g == c.g, c.q == c.q] = true, l.length ≤ l.length, off = off, (0 + l.length) * 8 ≤ 140737488355328, 0 + l.length ≤ 9223372036854775807, (newM0 c l.length (cpN l l.length)).ok, (0 : Nat) = 0, (0 : Nat) = 0, l.length ≤ (cpN l l.length).length, l.length ≤ (l.take l.length).length, l.length ≤ 9223372036854775806, ((cpN l l.length).take l.length == (l.take l.length).take l.length) = true]))))) := by kernel_rfl
end
theorem Z_eq {c : Cfg} (hr : c.Right) : (Z c : Int) = c.len := by
  have := Cfg.len_in hr
  unfold Z
  omega
theorem and_self (c : Cfg) : andL [c.t == c.t, c.s == c.s, c.k == c.k, c.g == c.g, c.q == c.q] = true := by simp [andL]
theorem mkP_ok {c : Cfg} (hr : c.Right) : ∀ p ∈ mkP c, p := by
  have := Cfg.len_in hr
  exact pcs_of ⟨by omega, by omega, by omega, trivial⟩
theorem newP_ok {c : Cfg} (hr : c.Right) : ∀ p ∈ newP c, p := by
  have h := Cfg.len_in hr
  have hz := Z_eq hr
  refine pcs_app (mkP_ok hr) (pcs_app (pcs_of ⟨?_, ?_, trivial⟩) (cpNP_ok (by simp [zs]) (by simp [zs]; omega)))
  · rw [beq_eq_false_iff_ne]; omega
  · rw [hz]; exact bne_self_eq_false _
theorem cfgP_ok {c : Cfg} (hr : c.Right) : ∀ p ∈ cfgP c, p := pcs_of ⟨by simp [rightB, hr], by rw [and_self]; rfl, hr, trivial⟩
theorem sameP_ok {c : Cfg} {l : List Int} (hr : c.Right) {N : Nat} (hN : N = l.length) (hlen : (N : Int) = c.len) : ∀ p ∈ sameP c N l, p := by
  have h := Cfg.len_in hr
  subst hN
  refine pcs_of ⟨⟨by rw [cpN_eq rfl]; rfl, by rw [cpN_eq rfl]; exact hlen⟩, rfl, rfl, by rw [cpN_eq rfl]; exact Nat.le_refl _, Nat.le_refl _, by omega, by rw [cpN_eq rfl]; exact beq_self_eq_true _, trivial⟩

theorem walk (c : Cfg) (v : Value) (l : List Int) (w : World) (hl : RowIn .u64 w v l) :
    Calls Try.prog fid #[c.v, v] w fun e w1 => e = .returned (.bool true) ∧ Below w.heap.size w w1 := by
  obtain ⟨a, cap, hv⟩ : ∃ (a : Option Addr) (cap : Nat), v = .slice (a.map fun x => ⟨x.block, x.off, none⟩) l.length cap := by
    rcases hl with ⟨rfl, rfl⟩ | ⟨b, off, cap, rfl, _, _⟩
    · exact ⟨none, 0, rfl⟩
    · exact ⟨some ⟨b, off, none⟩, cap, rfl⟩
  by_cases h : c.Right ∧ (l.length : Int) = c.len
  · obtain ⟨hr, hlen⟩ := h
    have hcl := Cfg.len_in hr
    have hz := Z_eq hr
    rcases hl with ⟨_, rfl⟩ | ⟨b, off, cap, rfl, hcell, _, hblk⟩
    · simp at hlen
      omega
    · have hargs : VRL (fun k => k < 1) (fun _ => b) (args c (some ⟨0, off, none⟩) l.length cap) [c.v, .slice (some ⟨b, off, none⟩) l.length cap] := fun ρ' ha => by
        have : ρ' 0 = b := ha 0 Nat.zero_lt_one
        simp [args, Cfg.ren_v, ren, renAddr, this]
      obtain ⟨o, ho, hov, hopc⟩ := told_some (whole c cap l off)
      have e0 : (c.len == 0) = false := by rw [beq_eq_false_iff_ne]; omega
      have e1 : ((l.length : Int) != c.len) = false := by rw [hlen]; exact bne_self_eq_false _
      have s2 := sameP_ok (l := l) (N := l.length) hr rfl hlen
      have := calls_of_path E11ok 20 ho (w := w) (by
        rw [hopc]
        refine pcs_app (newP_ok hr) (pcs_app (pcs_of ⟨e0, e1, by omega, by omega, by omega, Nat.min_le_left _ _, by simp, rfl, trivial⟩) (pcs_app (cfgP_ok hr) (pcs_app (mkP_ok hr) (pcs_app (sameP_ok (l := zs c) hr (by simp [zs]) hz) (pcs_of ⟨hr, e1, and_self c, Nat.le_refl _, rfl, by omega, by omega, ?_, rfl, rfl, ?_, ?_, by omega, ?_, trivial⟩)))))
        · exact s2 _ (by simp [sameP])
        · rw [cpN_eq rfl]; exact Nat.le_refl _
        · rw [List.take_length]; exact Nat.le_refl _
        · rw [cpN_eq rfl, List.take_length]; simp) (by rw [hov]; rfl) view_isV hargs (HR_row' hcell hblk)
      rw [hov] at this
      exact this
  · have hargs : VRL (fun k => k < 1) (fun _ => (a.map Addr.block).getD 0) (args c (anyB 0 a) l.length cap) [c.v, v] := fun ρ' ha => by
      have e0 : ρ' 0 = (a.map Addr.block).getD 0 := ha 0 Nat.zero_lt_one
      rw [hv]
      simp only [args, List.map_cons, List.map_nil, Cfg.ren_v, anyB_rel 0 a ρ' _ _ e0]
    by_cases hr : c.Right
    · have hlen : (l.length : Int) ≠ c.len := fun e => h ⟨hr, e⟩
      have hcl := Cfg.len_in hr
      have e0 : (c.len == 0) = false := by rw [beq_eq_false_iff_ne]; omega
      have e1 : ((l.length : Int) != c.len) = true := bne_iff_ne.2 hlen
      obtain ⟨o, ho, hov, hopc⟩ := told_some (not_len c (anyB 0 a) l.length cap)
      have := calls_of_path E11ok 20 ho (w := w) (by
        rw [hopc]
        exact pcs_app (newP_ok hr) (pcs_app (pcs_of ⟨e0, e1, trivial⟩) (pcs_app (cfgP_ok hr) (pcs_app (mkP_ok hr) (pcs_app (sameP_ok (l := zs c) hr (by simp [zs]) (Z_eq hr)) (pcs_of ⟨hr, e1, trivial⟩)))))) (by rw [hov]; rfl) none_isV hargs (HR_none _ 1)
      rw [hov] at this
      exact this
    · obtain ⟨o, ho, hov, hopc⟩ := told_some (not_right c (anyB 0 a) l.length cap)
      have hz : c.len = 0 := by unfold Cfg.len; rw [if_neg hr]
      have := calls_of_path E11ok 20 ho (w := w) (by
        rw [hopc]
        refine pcs_app (pcs_of (show allP (mkP c) from ⟨by omega, by omega, by omega, trivial⟩)) (pcs_of ?_)
        · rw [hz]; exact ⟨rfl, rfl, by simp [rightB, hr], trivial⟩) (by rw [hov]; rfl) none_isV hargs (HR_none _ 1)
      rw [hov] at this
      exact this
end Go.Proofs.Ytcpkieahnkfpoaa.StoreNewDone
