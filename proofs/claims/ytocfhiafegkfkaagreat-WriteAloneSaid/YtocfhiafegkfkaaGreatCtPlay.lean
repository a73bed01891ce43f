/- The laws of a world, some words, and a play of which pokes are a part. -/
import Derived.Test.YtocfhiafegkfkaaGreatCtPoked
import Derived.Test.YtocfhiafegkfkaaGreatEvOpen5
namespace Go.Proofs.YtocfhiafegkfkaaGreat.Ct
open Go Go.Proofs Go.Proofs.YtocfhiafegkfkaaGreat.Ev
open Go.RowKit

def plHp (l : List Int) (off : Nat) (pk : Pk) : Hp := ⟨(0, .view off (.ints .u64 l u64T)) :: pk.blk 1, 2, []⟩
theorem law_play {E E' : Env} (hE : EnvOk E) (hP : E.P = E'.P) {n : Nat} {f : FuncId} {c : Cfg} {v : Value} {l : List Int} {ks : List IntKind} {zs : List Int} {sv : Value} {rows : List (List Int)} {w : World} (hl : RowIn .u64 w v l) (hs : RowR pkK w sv rows)
    (hin : c.Right → (l.length : Int) = c.len → ∀ off cap (pk : Pk), ∃ hp1, CallC E'.P f [c.v, .slice (some ⟨0, off, none⟩) l.length cap, .agg ⟨rowV ks zs ++ [pk.sv 1]⟩] (plHp l off pk) (.bool true) hp1)
    (hno : ¬ c.Right → ∀ a m cap (pk : Pk), ∃ ds pc, told (doCall E n f [c.v, .slice a m cap, .agg ⟨rowV ks zs ++ [pk.sv 1]⟩] ⟨[], 2, []⟩ ds) = some (.bool true, pc) ∧ ∀ p ∈ pc, p)
    (hlen : c.Right → ∀ a (m cap : Nat) (pk : Pk), (m : Int) ≠ c.len → ∃ ds pc, told (doCall E n f [c.v, .slice a m cap, .agg ⟨rowV ks zs ++ [pk.sv 1]⟩] ⟨[], 2, []⟩ ds) = some (.bool true, pc) ∧ ∀ p ∈ pc, p) :
    Calls E'.P f #[c.v, v, .agg ⟨rowV ks zs ++ [sv]⟩] w fun e w1 => e = .returned (.bool true) ∧ Below w.heap.size w w1 := by
  by_cases h : c.Right ∧ (l.length : Int) = c.len
  · obtain ⟨hr, hlen⟩ := h
    have hcl := Cfg.len_in hr
    rcases hl with ⟨_, rfl⟩ | ⟨b, off, cap, rfl, hcell, _, hblk⟩
    · simp at hlen
      omega
    · rcases hs with ⟨rfl, rfl⟩ | ⟨b2, of2, cap2, rfl, hcell2, _, hblk2⟩
      · obtain ⟨hp1, hC⟩ := hin hr hlen off cap .nil
        have hargs : VRL (fun k => k < 2) (fun _ => b) [c.v, .slice (some ⟨0, off, none⟩) l.length cap, .agg ⟨rowV ks zs ++ [.slice none 0 0]⟩] [c.v, .slice (some ⟨b, off, none⟩) l.length cap, .agg ⟨rowV ks zs ++ [.slice none 0 0]⟩] := fun ρ' ha => by
          have e0 : ρ' 0 = b := ha 0 (by omega)
          simp [Cfg.ren_v, ren, renA, renL_map, e0, rowV_nm]
        exact calls_of_C hC rfl view_isV hargs (HR_row2 (ρ := fun _ => b) Nat.zero_lt_two hcell hblk)
      · obtain ⟨hp1, hC⟩ := hin hr hlen off cap (.row of2 cap2 rows)
        let ρ : Nat → Nat := fun k => if k = 0 then b else b2
        have hargs : VRL (fun k => k < 2) ρ [c.v, .slice (some ⟨0, off, none⟩) l.length cap, .agg ⟨rowV ks zs ++ [.slice (some ⟨1, of2, none⟩) rows.length cap2]⟩] [c.v, .slice (some ⟨b, off, none⟩) l.length cap, .agg ⟨rowV ks zs ++ [.slice (some ⟨b2, of2, none⟩) rows.length cap2]⟩] := fun ρ' ha => by
          have e0 : ρ' 0 = b := ha 0 (by omega)
          have e1 : ρ' 1 = b2 := ha 1 (by omega)
          simp [Cfg.ren_v, ren, renA, renL_map, e0, e1, rowV_nm]
        exact calls_of_C hC rfl (two_isV rfl rfl) hargs (HR_two rfl rfl (sat_ints hcell hblk) (sat_recs hcell2 hblk2))
  · obtain ⟨a, cap, hv⟩ := row_any hl
    obtain ⟨pk, b2, hv2⟩ : ∃ (pk : Pk) (b2 : Nat), ∀ ρ' : Nat → Nat, ρ' 1 = b2 → ren ρ' (pk.sv 1) = sv := by
      rcases hs with ⟨rfl, rfl⟩ | ⟨b, off, cap, rfl, _, _⟩
      · exact ⟨.nil, 0, fun _ _ => rfl⟩
      · exact ⟨.row off cap rows, b, fun ρ' h => by simp [Pk.sv, ren, h]⟩
    let ρ : Nat → Nat := fun k => if k = 0 then (a.map Addr.block).getD 0 else b2
    have hargs : VRL (fun k => k < 2) ρ [c.v, .slice (anyB 0 a) l.length cap, .agg ⟨rowV ks zs ++ [pk.sv 1]⟩] [c.v, v, .agg ⟨rowV ks zs ++ [sv]⟩] := fun ρ' ha => by
      have e0 : ρ' 0 = (a.map Addr.block).getD 0 := ha 0 (by omega)
      have e1 : ρ' 1 = b2 := ha 1 (by omega)
      rw [hv]
      simp only [List.map_cons, List.map_nil, Cfg.ren_v, anyB_rel 0 a ρ' _ _ e0, ren_agg, List.map_append, rowV_nm, hv2 ρ' e1]
    rw [← hP]
    by_cases hr : c.Right
    · have hlen' : (l.length : Int) ≠ c.len := fun e => h ⟨hr, e⟩
      obtain ⟨ds, pc, h1, h2⟩ := hlen hr (anyB 0 a) l.length cap pk hlen'
      exact true_of_path hE h1 h2 none_isV hargs (HR_none _ 2)
    · obtain ⟨ds, pc, h1, h2⟩ := hno hr (anyB 0 a) l.length cap pk
      exact true_of_path hE h1 h2 none_isV hargs (HR_none _ 2)
/-- There are not more than 30 pokes. -/
def Pk.big : Pk → List Prop
  | .nil => []
  | .row _ _ rows => [decide ((rows.length : Int) > 30) = false]
theorem big_or (pk : Pk) : (∃ of2 cap2 rows, pk = .row of2 cap2 rows ∧ 30 < rows.length) ∨ ((∀ p ∈ pk.big, p) ∧ pk.len ≤ 30) := by
  cases pk with
  | nil => exact .inr ⟨pcs_of trivial, Nat.zero_le _⟩
  | row of2 cap2 rows =>
    by_cases h : rows.length ≤ 30
    · exact .inr ⟨pcs_of ⟨decide_eq_false (by omega), trivial⟩, h⟩
    · exact .inl ⟨of2, cap2, rows, rfl, by omega⟩
end Go.Proofs.YtocfhiafegkfkaaGreat.Ct
