/- What the laws share that hold a memory's words against the ones it had: where a spot stands, and what the entry of such a law comes to. -/
import Derived.Test.YtocfhiafegkfkaaGreatCtWorld
import Derived.Test.YtocfhiafegkfkaaGreatEvOpen5
namespace Go.Proofs.YtocfhiafegkfkaaGreat.Ct
open Go Go.Proofs Go.Proofs.YtocfhiafegkfkaaGreat.Ev
open Go.RowKit

theorem z1 (tl : List Nat) : ∀ k, k < 1 → (0 :: tl : List Nat).getD k 0 = k := fun k hk => by
  match k, hk with
  | 0, _ => rfl
theorem w64_succ (i : Nat) (h : i < 1000000) : w64 ((i : Int) + 1) = ((i + 1 : Nat) : Int) := by
  rw [w64_in (by omega) (by omega)]
  omega
theorem acc_ok {m : Mm} (h : m.ok) {op kd n : Int} {w : List Int} {dn : Bool} (hw : w.length = m.w.length) : (m.acc op kd n w dn).ok := ⟨h.1.trans hw.symm, by show ((w.length : Nat) : Int) = m.c.len; rw [hw]; exact h.2⟩
/-- A cell's spot is the one that stands there. -/
theorem at_cellIx {c : Cfg} {kd n : Int} {k : Int} (h : cellIx c kd n = k) (h0 : 0 ≤ k) : kindAt c k = kd ∧ numAt c k = n := by
  unfold cellIx at h
  split at h
  · rename_i hc
    obtain ⟨hr, hn⟩ := hc
    unfold Cfg.Right at hr
    split at h
    · rename_i hk
      split at h
      · unfold kindAt numAt
        rw [if_pos (by omega), if_pos (by omega)]
        omega
      · omega
    · split at h
      · split at h
        · unfold kindAt numAt
          rw [if_neg (by omega), if_pos (by omega), if_neg (by omega), if_pos (by omega)]
          omega
        · omega
      · split at h
        · split at h
          · rename_i h4 h5
            unfold kindAt numAt
            rw [if_neg (by omega), if_neg (by omega), if_pos (by omega), if_neg (by omega), if_neg (by omega), if_pos (by omega)]
            omega
          · omega
        · split at h
          · split at h
            · unfold kindAt numAt
              rw [if_neg (by omega), if_neg (by omega), if_neg (by omega), if_neg (by omega), if_neg (by omega), if_neg (by omega)]
              omega
            · omega
          · omega
  · omega
theorem setW_getD {w : List Int} {i v : Int} {j : Nat} (h : (setW w i v).getD j 0 ≠ w.getD j 0) : i = (j : Int) := by
  unfold setW at h
  split at h
  · rename_i h0
    by_cases e : i.toNat = j
    · omega
    · exfalso
      apply h
      rw [List.getD_eq_getElem?_getD, List.getElem?_set_ne e, List.getD_eq_getElem?_getD]
  · exact absurd rfl h
theorem swpW_getD {w : List Int} {i o v : Int} {j : Nat} (h : (swpW w i o v).getD j 0 ≠ w.getD j 0) : i = (j : Int) ∧ getW w i = o := by
  unfold swpW at h
  split at h
  · rename_i h0
    exact ⟨setW_getD h, h0⟩
  · exact absurd rfl h
/-- A law's row that was handed in, as it is where nothing is known of it. -/
theorem row_any {v : Value} {l : List Int} {w : World} (hl : RowIn .u64 w v l) : ∃ (a : Option Addr) (cap : Nat), v = .slice (a.map fun x => ⟨x.block, x.off, none⟩) l.length cap := by
  rcases hl with ⟨rfl, rfl⟩ | ⟨b, off, cap, rfl, _, _⟩
  · exact ⟨none, 0, rfl⟩
  · exact ⟨some ⟨b, off, none⟩, cap, rfl⟩
/-- A path that tells true, of what was handed in. -/
theorem true_of_path {E : Env} (hE : EnvOk E) {n : Nat} {f : FuncId} {args : List Value} {hp : Hp} {ds : List Dec} {pc : List Prop} (h : told (doCall E n f args hp ds) = some (.bool true, pc)) (hpc : ∀ p ∈ pc, p) (hvw : ∀ k b, hp.get k = some b → b.isV = true) {ρ : Nat → Nat} {w : World} {cargs : List Value} (ha : VRL (fun k => k < hp.next) ρ args cargs) (hH : HR (fun k => k < hp.next) ρ hp w) :
    Calls E.P f ⟨cargs⟩ w fun e w1 => e = .returned (.bool true) ∧ Below w.heap.size w w1 := by
  obtain ⟨o, ho, hov, hopc⟩ := told_some h
  have := calls_of_path hE n ho (w := w) (by rw [hopc]; exact hpc) (by rw [hov]; rfl) hvw ha hH
  rw [hov] at this
  exact this
theorem rowV_nm (ks : List IntKind) (z : List Int) (ρ : Nat → Nat) : (rowV ks z).map (ren ρ) = rowV ks z := by
  induction ks generalizing z with
  | nil => rfl
  | cons k ks ih => cases z <;> simp [rowV, ren, ih]
/-- A law of a world, some words, and what holds no name: from the run in a world that is right to the whole. -/
theorem law_cells {E E' : Env} (hE : EnvOk E) (hP : E.P = E'.P) {n : Nat} {f : FuncId} {c : Cfg} {v : Value} {l : List Int} {x : List Value} {w : World} (hl : RowIn .u64 w v l) (hx : ∀ ρ, x.map (ren ρ) = x)
    (hin : c.Right → (l.length : Int) = c.len → ∀ off cap, ∃ hp1, CallC E'.P f (c.v :: .slice (some ⟨0, off, none⟩) l.length cap :: x) ⟨[(0, .view off (.ints .u64 l u64T))], 1, []⟩ (.bool true) hp1)
    (hno : ¬ c.Right → ∀ a m cap, ∃ ds pc, told (doCall E n f (c.v :: .slice a m cap :: x) ⟨[], 1, []⟩ ds) = some (.bool true, pc) ∧ ∀ p ∈ pc, p)
    (hlen : c.Right → ∀ a (m cap : Nat), (m : Int) ≠ c.len → ∃ ds pc, told (doCall E n f (c.v :: .slice a m cap :: x) ⟨[], 1, []⟩ ds) = some (.bool true, pc) ∧ ∀ p ∈ pc, p) :
    Calls E'.P f ⟨c.v :: v :: x⟩ w fun e w1 => e = .returned (.bool true) ∧ Below w.heap.size w w1 := by
  by_cases h : c.Right ∧ (l.length : Int) = c.len
  · obtain ⟨hr, hlen⟩ := h
    have hcl := Cfg.len_in hr
    rcases hl with ⟨_, rfl⟩ | ⟨b, off, cap, rfl, hcell, _, hblk⟩
    · simp at hlen
      omega
    · have hargs : VRL (fun k => k < 1) (fun _ => b) (c.v :: .slice (some ⟨0, off, none⟩) l.length cap :: x) (c.v :: .slice (some ⟨b, off, none⟩) l.length cap :: x) := fun ρ' ha => by
        have : ρ' 0 = b := ha 0 Nat.zero_lt_one
        simp [Cfg.ren_v, ren, this, hx]
      obtain ⟨hp1, hC⟩ := hin hr hlen off cap
      exact calls_of_C hC rfl view_isV hargs (HR_row' hcell hblk)
  · obtain ⟨a, cap, hv⟩ := row_any hl
    have hargs : VRL (fun k => k < 1) (fun _ => (a.map Addr.block).getD 0) (c.v :: .slice (anyB 0 a) l.length cap :: x) (c.v :: v :: x) := fun ρ' ha => by
      have e0 : ρ' 0 = (a.map Addr.block).getD 0 := ha 0 Nat.zero_lt_one
      rw [hv]
      simp only [List.map_cons, Cfg.ren_v, anyB_rel 0 a ρ' _ _ e0, hx]
    rw [← hP]
    by_cases hr : c.Right
    · have hlen' : (l.length : Int) ≠ c.len := fun e => h ⟨hr, e⟩
      obtain ⟨ds, pc, h1, h2⟩ := hlen hr (anyB 0 a) l.length cap hlen'
      exact true_of_path hE h1 h2 none_isV hargs (HR_none _ 1)
    · obtain ⟨ds, pc, h1, h2⟩ := hno hr (anyB 0 a) l.length cap
      exact true_of_path hE h1 h2 none_isV hargs (HR_none _ 1)
end Go.Proofs.YtocfhiafegkfkaaGreat.Ct
