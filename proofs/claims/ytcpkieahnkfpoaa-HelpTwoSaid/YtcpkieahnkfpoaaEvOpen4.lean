/- What a call is handed, as data that the evaluator knows: a struct of numbers, and a row of bools at its end. -/
import Derived.Test.YtcpkieahnkfpoaaEvOpen3
namespace Go.Proofs.Ytcpkieahnkfpoaa.Ev
open Go Go.RowKit

/-- A row of bools that was handed in: nothing, or a place in a block. -/
def RowB (w : World) (v : Value) (L : List Bool) : Prop :=
  (v = .slice none 0 0 ∧ L = []) ∨ ∃ b off cap, v = .slice (some ⟨b, off, none⟩) L.length cap ∧ (∀ i, i < L.length → w.cell? ⟨b, off + i, none⟩ = some (.bool (L.getD i false))) ∧ ∃ cells ty fr, w.heap[b]? = some (.cells cells ty fr)
theorem open_bools' {P : Program} {H : Type} {enc : TypeId × Value → H} {w : World} {base : Nat} {r : Reach} {b0 : Nat} {t e : TypeId} {v : Value} {fuel : Nat} {x : DataW H × List MemPlace} (ht : P.underlying t = some (.slice e)) (he : P.underlying e = some .bool) (hn : P.cellsOf e = 1)
    (hv : Cell.okWide P w r b0 t v) (hf : DataW.trod enc P w base (fun _ => true) true fuel t [v] = some x) : ∃ L, RowB w v L := by
  rcases Go.Deep.open_slice1 ht hn hf with ⟨hcs, _⟩ | ⟨a, len, cap, m, n, V, D, Pl, hcs, _, hl, _, hm, _, hx⟩
  · simp only [List.cons.injEq, and_true] at hcs
    exact ⟨[], .inl ⟨hcs, rfl⟩⟩
  · simp only [List.cons.injEq, and_true] at hcs
    subst hcs
    have hhas : a.spot = none ∧ ∃ row n, w.shape? a.block = some (row, n) := by
      simp only [ht, Cell.okWide, Cell.ok] at hv
      obtain ⟨row, n, h1, _⟩ := hv.2.2.2.2
      exact ⟨hv.2.2.2.1, row, n, h1⟩
    obtain ⟨hspot, row, nn, hshape⟩ := hhas
    have hblk : ∃ cells ty fr, w.heap[a.block]? = some (.cells cells ty fr) := by
      unfold World.shape? at hshape
      split at hshape
      · rename_i cells ty fr h
        exact ⟨_, _, _, h⟩
      · cases hshape
    obtain ⟨b, off, spot⟩ := a
    simp only at hspot
    subst hspot
    have each : ∀ i, i < len → ∃ z : Bool, w.cell? ⟨b, off + i, none⟩ = some (.bool z) := fun i hi => by
      obtain ⟨h1, h2⟩ := hx i (by rw [hm]; simp; omega)
      obtain ⟨z, hz, _⟩ := DataW.trod_bool he h2
      simp only [List.cons.injEq, and_true] at hz
      rw [Addr.add_mid, hz] at h1
      exact ⟨z, h1⟩
    obtain ⟨R, hR⟩ : ∃ R : Nat → Bool, ∀ i, i < len → w.cell? ⟨b, off + i, none⟩ = some (.bool (R i)) := by
      refine ⟨fun i => if h : i < len then Classical.choose (each i h) else false, fun i hi => ?_⟩
      simp only [dif_pos hi]
      exact Classical.choose_spec (each i hi)
    refine ⟨(List.range len).map R, .inr ⟨b, off, cap, by rw [List.length_map, List.length_range], fun i hi => ?_, hblk⟩⟩
    rw [List.length_map, List.length_range] at hi
    rw [hR i hi, List.getD_eq_getElem?_getD, List.getElem?_map, List.getElem?_range hi]
    rfl
theorem sat_bools {w : World} {b off : Nat} {L : List Bool} {ty : TypeId} (hc : ∀ i, i < L.length → w.cell? ⟨b, off + i, none⟩ = some (.bool (L.getD i false))) (hblk : ∃ cells ty fr, w.heap[b]? = some (.cells cells ty fr)) :
    ∃ o, w.heap[b]? = some o ∧ ∀ ρ', (Blk.view off (.bools L ty)).sat ρ' o := by
  obtain ⟨cells, ty', fr, hb⟩ := hblk
  refine ⟨_, hb, fun ρ' => ⟨cells, ty', fr, rfl, fun j v hv => ?_⟩⟩
  simp only [Blk.rowW, List.getElem?_map] at hv
  cases hj : L[j]? with
  | none => rw [hj] at hv; cases hv
  | some z =>
    rw [hj] at hv
    have hlt := (List.getElem?_eq_some_iff.1 hj).1
    have := hc j hlt
    rw [cell_of hb, List.getD_eq_getElem?_getD, hj] at this
    rw [this]
    exact hv
/-- A struct of one number, and a row of bools. -/
theorem open_turns {P : Program} {H : Type} {enc : TypeId × Value → H} {w : World} {base : Nat} {r : Reach} {b0 : Nat} {t st e it : TypeId} {f0 f1 : Field} {k : IntKind} {v : Value} {d : DataW H} {p : List MemPlace} (ht : P.underlying t = some (.struct #[f0, f1])) (hn : P.cellsOf t = 2)
    (h0 : f0.offset = 0 ∧ P.cellsOf f0.type = 1 ∧ P.underlying f0.type = some (.int k)) (h1 : f1.offset = 1 ∧ P.cellsOf f1.type = 1 ∧ f1.type = st) (hts : P.cellTypes P.depth t = some [it, st])
    (hst : P.underlying st = some (.slice e)) (he : P.underlying e = some .bool) (hne : P.cellsOf e = 1) (hv : Value.okWide P w r b0 t v) (h : DataW.Trod enc P w base (fun _ => true) true t v d p) :
    ∃ (z : Int) (sv : Value) (L : List Bool), v = .agg ⟨[.int k z, sv]⟩ ∧ (Lit.int k z).wf = true ∧ RowB w sv L := by
  obtain ⟨cs, rfl, hsz⟩ := Go.WideShapes.okWide_struct ht hv
  obtain ⟨fuel, hf⟩ := h
  obtain ⟨xs, m, _, _, _, hxl, hx⟩ := DataW.trod_struct ht hf
  obtain ⟨cs⟩ := cs
  rw [hn] at hsz
  match cs, hsz with
  | [v0, v1], _ =>
    obtain ⟨o0, c0, u0⟩ := h0
    obtain ⟨o1, c1, rfl⟩ := h1
    match xs, hxl with
    | [y0, y1], _ =>
      have g0 := hx 0 f0 rfl
      have g1 := hx 1 f1 rfl
      simp [o0, c0, Value.cells] at g0
      simp [o1, c1, Value.cells] at g1
      obtain ⟨z, hz, _, hw⟩ := DataW.trod_int u0 g0
      simp only [List.cons.injEq, and_true] at hz
      subst hz
      have hok : Cell.okWide P w r b0 f1.type v1 := by
        simp only [Value.okWide, ht] at hv
        obtain ⟨cs', q0, _, ts', q1, _, q3⟩ := hv
        injection q0 with q0
        subst q0
        rw [hts] at q1
        obtain rfl := Option.some.inj q1
        obtain ⟨u, u1, u2⟩ := q3 1 v1 rfl
        obtain rfl : f1.type = u := by simpa using u1
        exact u2
      obtain ⟨L, hL⟩ := open_bools' hst he hne hok g1
      exact ⟨z, v1, L, rfl, hw, hL⟩
end Go.Proofs.Ytcpkieahnkfpoaa.Ev
