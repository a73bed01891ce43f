/- The reach of a slice that lies in a struct that was handed in. -/
import Derived.Test.YtmliekdbhefpkaaEvOpen5
import Derived.SizedLaws
namespace Go.Proofs.Ytmliekdbhefpkaa.Ev
open Go Go.RowKit

theorem field_sized {P : Program} {H : Type} {enc : TypeId × Value → H} {w : World} {base : Nat} {t e : TypeId} {k : IntKind} {fs : Array Field} {cs : List Value} {d : DataW H} {p : List MemPlace} {i : Nat} {f : Field} {v : Value} {l : List Int} (ht : P.underlying t = some (.struct fs))
    (h : DataW.Trod enc P w base (fun _ => true) true t (.agg ⟨cs⟩) d p) (hw : (d.weights P t).all (· ≤ reachBytes) = true) (hf : fs[i]? = some f) (ho : f.offset = i) (hc : P.cellsOf f.type = 1) (hi : cs[i]? = some v)
    (hs : P.underlying f.type = some (.slice e)) (he : P.underlying e = some (.int k)) (hc1 : P.cellsOf e = 1) (hl : RowIn k w v l) : l.length * P.bytesOf e ≤ reachBytes := by
  rcases hl with ⟨_, rfl⟩ | ⟨b, off, cap, rfl, _, _⟩
  · simp
  obtain ⟨fuel, hfu⟩ := h
  obtain ⟨xs, m, _, hx0, _, hxl, hx⟩ := DataW.trod_struct ht hfu
  have hxi : i < xs.length := by rw [hxl]; exact (Array.getElem?_eq_some_iff.1 hf).1
  have h1 := hx _ f hf
  rw [List.getElem?_eq_getElem hxi] at h1
  have hlt : i < cs.length := (List.getElem?_eq_some_iff.1 hi).1
  have hcell : ((Value.agg ⟨cs⟩).cells.toList.drop f.offset).take (P.cellsOf f.type) = [.slice (some ⟨b, off, none⟩) l.length cap] := by
    have : (Value.agg ⟨cs⟩).cells.toList = cs := rfl
    rw [this, ho, hc]
    apply List.ext_getElem?
    intro q
    rw [List.getElem?_take]
    split
    · rename_i h
      have : q = 0 := by omega
      subst this
      rw [List.getElem?_drop]
      simpa using hi
    · rename_i h
      rw [List.getElem?_eq_none (by simp; omega)]
  rw [hcell] at h1
  have hd : d = .agg (xs.map (·.1)) := congrArg Prod.fst hx0
  rcases Go.ChangeShapes.open_ints hs he hc1 h1 with ⟨hcs, _⟩ | ⟨x, len, c, zs, hcs, _, hll, hm, hz, hxx, _, _⟩
  · simp at hcs
  · simp at hcs
    obtain ⟨_, rfl, rfl⟩ := hcs
    have hz' : zs.length = cap := by simpa using hz
    have hx1 : xs[i].1 = _ := congrArg Prod.fst hxx
    have hmem : ∀ n ∈ xs[i].1.weights P f.type, n ∈ d.weights P t := fun n hn => by
      rw [hd]
      have e0 : DataW.weights P t (.agg (xs.map (·.1))) = DataW.weightsEach P (fs.toList.map (·.type)) (xs.map (·.1)) := by simp [DataW.weights, ht]
      rw [e0]
      refine DataW.weights_mem_each (j := i) (t := f.type) (d := xs[i].1) ?_ ?_ n hn
      · have hf' : fs.toList[i]? = some f := by simpa using hf
        rw [List.getElem?_map, hf']
        rfl
      · rw [List.getElem?_map, List.getElem?_eq_getElem hxi]
        rfl
    rw [hx1] at hmem
    have hb := List.all_eq_true.1 hw _ (hmem _ (by simp only [DataW.weights, hs]; exact List.mem_cons_self ..))
    have hb := of_decide_eq_true hb
    simp [Go.ChangeShapes.lits, hz'] at hb
    refine Nat.le_trans (Nat.mul_le_mul_right _ ?_) hb
    omega
end Go.Proofs.Ytmliekdbhefpkaa.Ev
