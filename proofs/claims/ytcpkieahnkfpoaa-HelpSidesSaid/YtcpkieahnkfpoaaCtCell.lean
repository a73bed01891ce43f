/- The document's length, and where a spot stands in its row, are the chart's. -/
import Derived.Test.YtcpkieahnkfpoaaCtSpots
namespace Go.Proofs.Ytcpkieahnkfpoaa.Ct
open Go Go.Proofs Go.Proofs.Ytcpkieahnkfpoaa.Ev

theorem spT_get {n j : Nat} (h : j < n) : (spT n)[2 + j]? = some [3, (j : Int)] := by
  unfold spT
  rw [List.getElem?_append_right (by simp)]
  simp [h]
theorem spS_pre {t n i : Nat} (h : i < 2 + t) : (spS t n)[i]? = (spT t)[i]? := by
  unfold spS
  rw [List.getElem?_append_left (by rw [spT_len]; exact h)]
theorem flat4_len (n : Nat) : ((List.range n).flatMap fun (j : Nat) => [[4, (j : Int)], [5, (j : Int)], [6, (j : Int)], [7, (j : Int)]]).length = 4 * n := by
  induction n with
  | zero => rfl
  | succ n ih => rw [List.range_succ, List.flatMap_append, List.length_append, ih]; simp; omega
theorem flat4_get {n j r : Nat} (h : j < n) (hr : r < 4) : ((List.range n).flatMap fun (j : Nat) => [[4, (j : Int)], [5, (j : Int)], [6, (j : Int)], [7, (j : Int)]])[4 * j + r]? = some [4 + (r : Int), (j : Int)] := by
  induction n with
  | zero => omega
  | succ n ih =>
    rw [List.range_succ, List.flatMap_append]
    by_cases hj : j < n
    · rw [List.getElem?_append_left (by rw [flat4_len]; omega)]
      exact ih hj
    · have : j = n := by omega
      subst this
      rw [List.getElem?_append_right (by rw [flat4_len]; omega), flat4_len, show 4 * j + r - 4 * j = r by omega]
      match r, hr with
      | 0, _ => rfl
      | 1, _ => rfl
      | 2, _ => rfl
      | 3, _ => rfl
theorem spS_get {t n j r : Nat} (h : j < n) (hr : r < 4) : (spS t n)[2 + t + (4 * j + r)]? = some [4 + (r : Int), (j : Int)] := by
  unfold spS
  rw [List.getElem?_append_right (by rw [spT_len]; omega), spT_len, show 2 + t + (4 * j + r) - (2 + t) = 4 * j + r by omega]
  exact flat4_get h hr
theorem spK_pre {t s n i : Nat} (h : i < 2 + t + 4 * s) : (spK t s n)[i]? = (spS t s)[i]? := by
  unfold spK
  rw [List.getElem?_append_left (by rw [spS_len]; exact h)]
theorem spK_get {t s n j : Nat} (h : j < n) : (spK t s n)[2 + t + 4 * s + j]? = some [8, (j : Int)] := by
  unfold spK
  rw [List.getElem?_append_right (by rw [spS_len]; omega), spS_len, show 2 + t + 4 * s + j - (2 + t + 4 * s) = j by omega]
  simp [h]

theorem spot_get {c : Cfg} (h : c.Right) {kind n : Int} {k : Nat} (hk : cellIx c kind n = (k : Int)) : c.spots[k]? = some [kind, n] := by
  have h' := h
  unfold Cfg.Right at h'
  obtain ⟨T, hT⟩ : ∃ T : Nat, c.t = (T : Int) := ⟨c.t.toNat, by omega⟩
  obtain ⟨Sn, hS⟩ : ∃ Sn : Nat, c.s = (Sn : Int) := ⟨c.s.toNat, by omega⟩
  obtain ⟨K, hK⟩ : ∃ K : Nat, c.k = (K : Int) := ⟨c.k.toNat, by omega⟩
  have hl : c.spots = spK T Sn K := by simp [Cfg.spots, hT, hS, hK]
  rw [hl]
  unfold cellIx at hk
  split at hk
  · rename_i h1
    obtain ⟨m, hm⟩ : ∃ m : Nat, n = (m : Int) := ⟨n.toNat, by omega⟩
    split at hk
    · rename_i hkind
      split at hk
      · have hm0 : n = 0 := by omega
        rcases hkind with hkind | hkind
        · have : k = 0 := by omega
          subst this
          rw [spK_pre (by omega), spS_pre (by omega), hkind, hm0]
          rfl
        · have : k = 1 := by omega
          subst this
          rw [spK_pre (by omega), spS_pre (by omega), hkind, hm0]
          rfl
      · omega
    · split at hk
      · rename_i hkind
        split at hk
        · have : k = 2 + m := by omega
          subst this
          rw [spK_pre (by omega), spS_pre (by omega), spT_get (by omega), hkind, hm]
        · omega
      · split at hk
        · rename_i hkind
          split at hk
          · obtain ⟨r, hr⟩ : ∃ r : Nat, kind = 4 + (r : Int) := ⟨(kind - 4).toNat, by omega⟩
            have : k = 2 + T + (4 * m + r) := by omega
            subst this
            rw [spK_pre (by omega), spS_get (by omega) (by omega), hr, hm]
          · omega
        · split at hk
          · rename_i hkind
            split at hk
            · have : k = 2 + T + 4 * Sn + m := by omega
              subst this
              rw [spK_get (by omega), hkind, hm]
            · omega
          · omega
  · omega
theorem spots_len {c : Cfg} (h : c.Right) : ((c.spots.length : Nat) : Int) = c.len := by
  have h' := h
  unfold Cfg.Right at h'
  unfold Cfg.spots Cfg.len
  rw [spK_len, if_pos h]
  omega
/-- What stands somewhere. -/
def kindAt (c : Cfg) (k : Int) : Int := if k < 2 then k + 1 else if k < 2 + c.t then 3 else if k < 2 + c.t + 4 * c.s then 4 + (k - 2 - c.t) % 4 else 8
def numAt (c : Cfg) (k : Int) : Int := if k < 2 then 0 else if k < 2 + c.t then k - 2 else if k < 2 + c.t + 4 * c.s then (k - 2 - c.t) / 4 else k - 2 - c.t - 4 * c.s
theorem cellIx_at {c : Cfg} (h : c.Right) {k : Int} (h0 : 0 ≤ k) (h1 : k < c.len) : cellIx c (kindAt c k) (numAt c k) = k := by
  have h' := h
  unfold Cfg.Right at h'
  unfold Cfg.len at h1
  rw [if_pos h] at h1
  unfold kindAt numAt
  by_cases a1 : k < 2
  · simp only [if_pos a1]
    unfold cellIx
    rw [if_pos ⟨h, by omega⟩, if_pos (by omega), if_pos (by omega)]
    omega
  · simp only [if_neg a1]
    by_cases a2 : k < 2 + c.t
    · simp only [if_pos a2]
      unfold cellIx
      rw [if_pos ⟨h, by omega⟩, if_neg (by omega), if_pos rfl, if_pos (by omega)]
      omega
    · simp only [if_neg a2]
      by_cases a3 : k < 2 + c.t + 4 * c.s
      · simp only [if_pos a3]
        unfold cellIx
        rw [if_pos ⟨h, by omega⟩, if_neg (by omega), if_neg (by omega), if_pos (by omega), if_pos (by omega)]
        omega
      · simp only [if_neg a3]
        unfold cellIx
        rw [if_pos ⟨h, by omega⟩, if_neg (by omega), if_neg (by omega), if_neg (by omega), if_pos rfl, if_pos (by omega)]
        omega

theorem cellIx_lt {c : Cfg} (kind n : Int) : cellIx c kind n < c.len ∨ cellIx c kind n = -1 := by
  unfold cellIx
  split
  · rename_i h
    have h' := h.1
    unfold Cfg.Right at h'
    unfold Cfg.len
    rw [if_pos h.1]
    split
    · split <;> omega
    · split
      · split <;> omega
      · split
        · split <;> omega
        · split
          · split <;> omega
          · omega
  · exact .inr rfl
theorem cellIx_ge (c : Cfg) (kind n : Int) : -1 ≤ cellIx c kind n := by
  unfold cellIx
  split
  · rename_i h
    have h' := h.1
    unfold Cfg.Right at h'
    split
    · split <;> omega
    · split
      · split <;> omega
      · split
        · split <;> omega
        · split
          · split <;> omega
          · omega
  · omega
end Go.Proofs.Ytcpkieahnkfpoaa.Ct
