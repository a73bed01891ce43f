/- What a call is handed, as data that the evaluator knows: rows of records, and heaps of rows that are only read. -/
import Derived.Test.YtcpkieahnkfpoaaEvOpen
import Derived.Deep.Slices
namespace Go.Proofs.Ytcpkieahnkfpoaa.Ev
open Go Go.RowKit

/-- A row of records of numbers that was handed in: nothing, or a place in a block. -/
def RowR (ks : List IntKind) (w : World) (v : Value) (rows : List (List Int)) : Prop :=
  (v = .slice none 0 0 ∧ rows = []) ∨ ∃ b off cap, v = .slice (some ⟨b, off, none⟩) rows.length cap ∧
    (∀ i, i < rows.length → ∀ j, j < ks.length → w.cell? ⟨b, off + (i * ks.length + j), none⟩ = some (.int (ks.getD j .i64) ((rows.getD i []).getD j 0))) ∧
    (∀ r ∈ rows, r.length = ks.length ∧ ∀ j, j < ks.length → (Lit.int (ks.getD j .i64) (r.getD j 0)).wf = true) ∧ ∃ cells ty fr, w.heap[b]? = some (.cells cells ty fr)

theorem open_recs' {P : Program} {H : Type} {enc : TypeId × Value → H} {w : World} {base : Nat} {r : Reach} {b0 : Nat} {t e : TypeId} {fs : Array Field} {ks : List IntKind} {v : Value} {fuel : Nat} {x : DataW H × List MemPlace} (ht : P.underlying t = some (.slice e)) (he : P.underlying e = some (.struct fs))
    (hn : P.cellsOf e = ks.length) (hfs : ∀ i, i < ks.length → ∃ f, fs[i]? = some f ∧ f.offset = i ∧ P.cellsOf f.type = 1 ∧ P.underlying f.type = some (.int (ks.getD i .i64)))
    (hv : Cell.okWide P w r b0 t v) (hf : DataW.trod enc P w base (fun _ => true) true fuel t [v] = some x) :
    ∃ rows, RowR ks w v rows := by
  rcases Go.Deep.open_slice ht hf with ⟨hcs, _⟩ | ⟨a, len, cap, m, n, D, Pl, hcs, _, hl, _, hm, _, hx⟩
  · simp only [List.cons.injEq, and_true] at hcs
    exact ⟨[], .inl ⟨hcs, rfl⟩⟩
  · simp only [List.cons.injEq, and_true] at hcs
    subst hcs
    have hhas : a.spot = none ∧ ∃ row n, w.shape? a.block = some (row, n) := by
      simp only [ht, Cell.okWide, Cell.ok] at hv
      obtain ⟨row, n, h1, _⟩ := hv.2.2.2.2
      exact ⟨hv.2.2.2.1, row, n, h1⟩
    obtain ⟨hspot, row, nn, hshape⟩ := hhas
    have hblk : ∃ cells ty fr, w.heap[a.block]? = some (.cells cells ty fr) := by
      unfold World.shape? at hshape
      split at hshape
      · rename_i cells ty fr h
        exact ⟨_, _, _, h⟩
      · cases hshape
    obtain ⟨b, off, spot⟩ := a
    simp only at hspot
    subst hspot
    have each : ∀ i, i < len → ∃ r : List Int, r.length = ks.length ∧ ∀ j, j < ks.length → w.cell? ⟨b, off + (i * ks.length + j), none⟩ = some (.int (ks.getD j .i64) (r.getD j 0)) ∧ (Lit.int (ks.getD j .i64) (r.getD j 0)).wf = true := fun i hi => by
      obtain ⟨cs', h1, h2⟩ := hx i (by rw [hm]; simp; omega)
      rw [hn] at h1
      obtain ⟨_, hlen, hcell⟩ := World.cells?_some h1
      obtain ⟨xs, k, _, _, _, hxl, hfld⟩ := DataW.trod_struct he h2
      have key : ∀ j, j < ks.length → ∃ z, cs'[j]? = some (.int (ks.getD j .i64) z) ∧ (Lit.int (ks.getD j .i64) z).wf = true := fun j hj => by
        obtain ⟨f, hfi, ho, hc, hu⟩ := hfs j hj
        have hxi : j < xs.length := by rw [hxl]; exact (Array.getElem?_eq_some_iff.1 hfi).1
        have h3 := hfld j f hfi
        rw [List.getElem?_eq_getElem hxi] at h3
        obtain ⟨z, hz, _, hw⟩ := DataW.trod_int hu h3
        rw [ho, hc] at hz
        refine ⟨z, ?_, hw⟩
        have h4 : ((cs'.drop j).take 1)[0]? = some (.int (ks.getD j .i64) z) := by rw [hz]; rfl
        rw [List.getElem?_take, if_pos (by omega), List.getElem?_drop] at h4
        simpa using h4
      refine ⟨cs'.map num, by rw [List.length_map, hlen], fun j hj => ?_⟩
      obtain ⟨z, hz, hw⟩ := key j hj
      have hg : (cs'.map num).getD j 0 = z := by
        rw [List.getD_eq_getElem?_getD, List.getElem?_map, hz]
        rfl
      rw [hg]
      refine ⟨?_, hw⟩
      have h5 := hcell j (by omega)
      rw [Go.Deep.add_add, Addr.add_mid] at h5
      rw [h5, ← hz, List.getElem?_eq_getElem (by omega)]
    obtain ⟨R, hR⟩ : ∃ R : Nat → List Int, ∀ i, i < len → (R i).length = ks.length ∧ ∀ j, j < ks.length → w.cell? ⟨b, off + (i * ks.length + j), none⟩ = some (.int (ks.getD j .i64) ((R i).getD j 0)) ∧ (Lit.int (ks.getD j .i64) ((R i).getD j 0)).wf = true := by
      refine ⟨fun i => if h : i < len then Classical.choose (each i h) else [], fun i hi => ?_⟩
      simp only [dif_pos hi]
      exact Classical.choose_spec (each i hi)
    have hget : ∀ i, i < len → ((List.range len).map R).getD i [] = R i := fun i hi => by
      rw [List.getD_eq_getElem?_getD, List.getElem?_map, List.getElem?_range hi]
      rfl
    refine ⟨(List.range len).map R, .inr ⟨b, off, cap, by rw [List.length_map, List.length_range], fun i hi j hj => ?_, fun r hr => ?_, hblk⟩⟩
    · rw [List.length_map, List.length_range] at hi
      rw [hget i hi]
      exact ((hR i hi).2 j hj).1
    · obtain ⟨i, hi, rfl⟩ := List.mem_map.1 hr
      have hi := List.mem_range.1 hi
      exact ⟨(hR i hi).1, fun j hj => ((hR i hi).2 j hj).2⟩
theorem open_recs {P : Program} {H : Type} {enc : TypeId × Value → H} {w : World} {base : Nat} {r : Reach} {b0 : Nat} {t e : TypeId} {fs : Array Field} {ks : List IntKind} {v : Value} {d : DataW H} {p : List MemPlace} (ht : P.underlying t = some (.slice e)) (he : P.underlying e = some (.struct fs))
    (hn : P.cellsOf e = ks.length) (hfs : ∀ i, i < ks.length → ∃ f, fs[i]? = some f ∧ f.offset = i ∧ P.cellsOf f.type = 1 ∧ P.underlying f.type = some (.int (ks.getD i .i64)))
    (hv : Value.okWide P w r b0 t v) (h : DataW.Trod enc P w base (fun _ => true) true t v d p) : ∃ rows, RowR ks w v rows := by
  obtain ⟨a, len, cap, rfl⟩ := Go.WideShapes.okWide_slice ht hv
  obtain ⟨fuel, hf⟩ := h
  have hv' : Cell.okWide P w r b0 t (.slice a len cap) := by
    simpa only [Value.okWide, ht] using hv
  exact open_recs' ht he hn hfs hv' hf

/-- A heap of rows that are only read. -/
theorem HR_views {hp : Hp} {ρ : Nat → Nat} {w : World} (h : ∀ n b, hp.get n = some b → n < hp.next ∧ b.isV = true ∧ ∃ o, w.heap[ρ n]? = some o ∧ ∀ ρ', b.sat ρ' o) : HR (fun k => k < hp.next) ρ hp w :=
  ⟨fun ρ' _ n b hb => by
    obtain ⟨_, _, o, ho, hs⟩ := h n b hb
    exact ⟨o, ho, hs ρ'⟩, fun n b hb => (h n b hb).1, fun n m b c hb hc _ => .inr ⟨(h n b hb).2.1, (h m c hc).2.1⟩⟩
theorem sat_ints {k : IntKind} {w : World} {b off : Nat} {l : List Int} {ty : TypeId} (hc : ∀ i, i < l.length → w.cell? ⟨b, off + i, none⟩ = some (.int k (l.getD i 0))) (hblk : ∃ cells ty fr, w.heap[b]? = some (.cells cells ty fr)) :
    ∃ o, w.heap[b]? = some o ∧ ∀ ρ', (Blk.view off (.ints k l ty)).sat ρ' o := by
  obtain ⟨cells, ty', fr, hb⟩ := hblk
  refine ⟨_, hb, fun ρ' => ⟨cells, ty', fr, rfl, fun j v hv => ?_⟩⟩
  simp only [Blk.rowW, List.getElem?_map] at hv
  cases hj : l[j]? with
  | none => rw [hj] at hv; cases hv
  | some z =>
    rw [hj] at hv
    have hlt := (List.getElem?_eq_some_iff.1 hj).1
    have := hc j hlt
    rw [cell_of hb, List.getD_eq_getElem?_getD, hj] at this
    rw [this]
    exact hv
theorem rowV_len : ∀ (ks : List IntKind) (l : List Int), (rowV ks l).length = ks.length
  | [], _ => rfl
  | k :: ks, [] => by simp [rowV, rowV_len ks []]
  | k :: ks, x :: xs => by simp [rowV, rowV_len ks xs]
theorem rowV_at : ∀ (ks : List IntKind) (l : List Int) (j : Nat), j < ks.length → (rowV ks l)[j]? = some (.int (ks.getD j .i64) (l.getD j 0))
  | [], _, j, h => by simp at h
  | k :: ks, [], 0, _ => rfl
  | k :: ks, x :: xs, 0, _ => rfl
  | k :: ks, [], j + 1, h => by
    have := rowV_at ks [] j (by simpa using h)
    simpa [rowV] using this
  | k :: ks, x :: xs, j + 1, h => by
    have := rowV_at ks xs j (by simpa using h)
    simpa [rowV] using this
theorem flatRow_at (ks : List IntKind) : ∀ (rows : List (List Int)) (q : Nat) (v : Value), (rows.flatMap (rowV ks))[q]? = some v → ∃ i j, i < rows.length ∧ j < ks.length ∧ q = i * ks.length + j ∧ v = .int (ks.getD j .i64) ((rows.getD i []).getD j 0)
  | [], q, v, h => by simp at h
  | r :: rows, q, v, h => by
    rw [List.flatMap_cons] at h
    by_cases hq : q < ks.length
    · rw [List.getElem?_append_left (by rw [rowV_len]; exact hq), rowV_at ks r q hq] at h
      exact ⟨0, q, by simp, hq, by simp, (Option.some.inj h).symm⟩
    · rw [List.getElem?_append_right (by rw [rowV_len]; omega), rowV_len] at h
      obtain ⟨i, j, h1, h2, h3, h4⟩ := flatRow_at ks rows _ _ h
      refine ⟨i + 1, j, by simp; omega, h2, ?_, by simpa using h4⟩
      rw [Nat.add_mul]
      omega
theorem sat_recs {ks : List IntKind} {w : World} {b off : Nat} {rows : List (List Int)} {ty : TypeId} (hc : ∀ i, i < rows.length → ∀ j, j < ks.length → w.cell? ⟨b, off + (i * ks.length + j), none⟩ = some (.int (ks.getD j .i64) ((rows.getD i []).getD j 0))) (hblk : ∃ cells ty fr, w.heap[b]? = some (.cells cells ty fr)) :
    ∃ o, w.heap[b]? = some o ∧ ∀ ρ', (Blk.view off (.recs ks rows ty)).sat ρ' o := by
  obtain ⟨cells, ty', fr, hb⟩ := hblk
  refine ⟨_, hb, fun ρ' => ⟨cells, ty', fr, rfl, fun q v hv => ?_⟩⟩
  obtain ⟨i, j, h1, h2, rfl, rfl⟩ := flatRow_at ks rows q v hv
  have := hc i h1 j h2
  rw [cell_of hb] at this
  exact this
/-- Two rows. -/
theorem HR_two {ρ : Nat → Nat} {w : World} {b0 b1 : Blk} (v0 : b0.isV = true) (v1 : b1.isV = true) (h0 : ∃ o, w.heap[ρ 0]? = some o ∧ ∀ ρ', b0.sat ρ' o) (h1 : ∃ o, w.heap[ρ 1]? = some o ∧ ∀ ρ', b1.sat ρ' o) : HR (fun k => k < 2) ρ ⟨[(0, b0), (1, b1)], 2, []⟩ w := by
  refine HR_views (hp := ⟨[(0, b0), (1, b1)], 2, []⟩) fun n b hb => ?_
  simp only [Hp.get, lookB] at hb
  cases hn : Nat.beq 0 n
  · simp only [hn, cond_false] at hb
    cases hn1 : Nat.beq 1 n
    · simp [hn1] at hb
    · simp only [hn1, cond_true, Option.some.injEq] at hb
      have := beq_nat hn1
      subst this; subst hb
      exact ⟨Nat.lt_succ_self _, v1, h1⟩
  · simp only [hn, cond_true, Option.some.injEq] at hb
    have := beq_nat hn
    subst this; subst hb
    exact ⟨Nat.zero_lt_succ _, v0, h0⟩
theorem two_isV {b0 b1 : Blk} {nx : Nat} {log : List Nat} (v0 : b0.isV = true) (v1 : b1.isV = true) : ∀ k d, (⟨[(0, b0), (1, b1)], nx, log⟩ : Hp).get k = some d → d.isV = true := fun k d hd => by
  simp only [Hp.get, lookB] at hd
  cases hn : Nat.beq 0 k
  · simp only [hn, cond_false] at hd
    cases hn1 : Nat.beq 1 k
    · simp [hn1] at hd
    · simp only [hn1, cond_true, Option.some.injEq] at hd
      rw [← hd]; exact v1
  · simp only [hn, cond_true, Option.some.injEq] at hd
    rw [← hd]; exact v0
/-- One row, with names beside it that are not told. -/
theorem HR_row2 {k : IntKind} {w : World} {ρ : Nat → Nat} {off N : Nat} {l : List Int} {ty : TypeId} (hN : 0 < N) (hc : ∀ i, i < l.length → w.cell? ⟨ρ 0, off + i, none⟩ = some (.int k (l.getD i 0))) (hblk : ∃ cells ty fr, w.heap[ρ 0]? = some (.cells cells ty fr)) : HR (fun j => j < N) ρ ⟨[(0, .view off (.ints k l ty))], N, []⟩ w := by
  refine HR_views (hp := ⟨[(0, .view off (.ints k l ty))], N, []⟩) fun n b hb => ?_
  simp only [Hp.get, lookB] at hb
  cases hn : Nat.beq 0 n
  · simp [hn] at hb
  · simp only [hn, cond_true, Option.some.injEq] at hb
    have := beq_nat hn
    subst this; subst hb
    exact ⟨hN, rfl, sat_ints hc hblk⟩
/-- The value of a slice that was handed in, by a name, where it is not looked into. -/
def anyB (k : Nat) (a : Option Addr) : Option Addr := a.map fun x => ⟨k, x.off, none⟩
theorem anyB_rel (k : Nat) (a : Option Addr) (ρ' : Nat → Nat) (n cap : Nat) (h : ρ' k = (a.map Addr.block).getD 0) : ren ρ' (.slice (anyB k a) n cap) = .slice (a.map fun x => ⟨x.block, x.off, none⟩) n cap := by
  cases a with
  | none => rfl
  | some x => simp [anyB, ren, renAddr, h]
end Go.Proofs.Ytcpkieahnkfpoaa.Ev
