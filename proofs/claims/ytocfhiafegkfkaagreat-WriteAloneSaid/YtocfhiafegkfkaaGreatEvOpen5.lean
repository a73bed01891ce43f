/- What a call is handed, as data that the evaluator knows: a struct of numbers, bools, and rows. -/
import Derived.Test.YtocfhiafegkfkaaGreatEvStack
import Derived.Below
import Derived.WideShapes
import Derived.ChangeSlices
import Derived.OpenShut
import Derived.Deep.Slices
namespace Go.Proofs.YtocfhiafegkfkaaGreat.Ev
open Go Go.RowKit

theorem below_of_FR {ρ ρ1 : Nat → Nat} {hp hp1 : Hp} {w w1 : World} (h : FR ρ ρ1 hp hp1 w w1) (hv : ∀ n b, hp.get n = some b → b.isV = true) : Below w.heap.size w w1 :=
  ⟨h.os, h.tape, h.output, h.size, fun k hk => h.old k hk fun n b hb hb' => by rw [hv n b hb] at hb'; cases hb'⟩

/-- A call, told by a path, of what was handed in: it returns that, and changes nothing that was there. -/
theorem calls_of_path {E : Env} (hE : EnvOk E) (n : Nat) {f : FuncId} {args : List Value} {hp : Hp} {ds : List Dec} {out : Out} (h : doCall E n f args hp ds = some out) (hpc : ∀ p ∈ out.pc, p) (hclo : clo out.v = true) (hvw : ∀ k b, hp.get k = some b → b.isV = true)
    {ρ : Nat → Nat} {w : World} {cargs : List Value} (hargs : VRL (fun k => k < hp.next) ρ args cargs) (hH : HR (fun k => k < hp.next) ρ hp w) : Calls E.P f ⟨cargs⟩ w fun e w1 => e = .returned out.v ∧ Below w.heap.size w w1 := by
  obtain ⟨_, _, h1⟩ := doCall_ok hE n f args hp ds out h
  refine (h1 hpc _ ρ w cargs hargs hH (fun k h1 _ h3 => by omega)).mono fun e w1 he => ?_
  obtain ⟨u, rfl, ρ1, _, _, hv, hfr⟩ := he
  rw [hv.self, ren_clo ρ1 hclo]
  exact ⟨rfl, below_of_FR hfr hvw⟩

theorem calls_of_C {P : Program} {f : FuncId} {args : List Value} {hp hp1 : Hp} {v : Value} (hC : CallC P f args hp v hp1) (hclo : clo v = true) (hvw : ∀ k b, hp.get k = some b → b.isV = true)
    {ρ : Nat → Nat} {w : World} {cargs : List Value} (hargs : VRL (fun k => k < hp.next) ρ args cargs) (hH : HR (fun k => k < hp.next) ρ hp w) : Calls P f ⟨cargs⟩ w fun e w1 => e = .returned v ∧ Below w.heap.size w w1 :=
  (hC.2 ρ w cargs hargs hH).mono fun e w1 he => by
    obtain ⟨u, ρ1, rfl, _, _, hv, hfr⟩ := he
    rw [hv.self, ren_clo ρ1 hclo]
    exact ⟨rfl, below_of_FR hfr hvw⟩

def num : Value → Int
  | .int _ n => n
  | _ => 0
theorem rowV_num : ∀ (cs : List Value) (ks : List IntKind), cs.length = ks.length → (∀ i, i < ks.length → ∃ n, cs[i]? = some (.int (ks.getD i .i64) n)) → cs = rowV ks (cs.map num)
  | [], [], _, _ => rfl
  | [], _ :: _, h, _ => by simp at h
  | _ :: _, [], h, _ => by simp at h
  | c :: cs, k :: ks, h, hk => by
    obtain ⟨n, hn⟩ := hk 0 (by simp)
    simp only [List.getElem?_cons_zero, Option.some.injEq] at hn
    subst hn
    have ih := rowV_num cs ks (by simpa using h) fun i hi => by
      have := hk (i + 1) (by simpa using hi)
      simpa using this
    rw [List.map_cons]
    show Value.int k n :: cs = .int k n :: rowV ks (cs.map num)
    rw [← ih]
/-- A struct of numbers, by value. -/
theorem open_flat {P : Program} {H : Type} {enc : TypeId × Value → H} {w : World} {base : Nat} {spare : Nat → Bool} {held : Bool} {r : Reach} {b0 : Nat} {t : TypeId} {fs : Array Field} {ks : List IntKind} {v : Value} {d : DataW H} {p : List MemPlace} (ht : P.underlying t = some (.struct fs))
    (hn : P.cellsOf t = ks.length) (hfs : ∀ i, i < ks.length → ∃ f, fs[i]? = some f ∧ f.offset = i ∧ P.cellsOf f.type = 1 ∧ P.underlying f.type = some (.int (ks.getD i .i64)))
    (hv : Value.okWide P w r b0 t v) (h : DataW.Trod enc P w base spare held t v d p) :
    ∃ zs : List Int, zs.length = ks.length ∧ v = .agg ⟨rowV ks zs⟩ ∧ ∀ i, i < ks.length → (Lit.int (ks.getD i .i64) (zs.getD i 0)).wf = true := by
  obtain ⟨cs, rfl, hsz⟩ := Go.WideShapes.okWide_struct ht hv
  obtain ⟨fuel, hf⟩ := h
  obtain ⟨xs, m, _, _, _, hxl, hx⟩ := DataW.trod_struct ht hf
  obtain ⟨cs⟩ := cs
  have hcs : cs.length = ks.length := by rw [← hn]; exact hsz
  have key : ∀ i, i < ks.length → ∃ n, cs[i]? = some (.int (ks.getD i .i64) n) ∧ (Lit.int (ks.getD i .i64) n).wf = true := fun i hi => by
    obtain ⟨f, hfi, ho, hc, hu⟩ := hfs i hi
    have hxi : i < xs.length := by rw [hxl]; exact (Array.getElem?_eq_some_iff.1 hfi).1
    have h1 := hx i f hfi
    rw [List.getElem?_eq_getElem hxi] at h1
    obtain ⟨n, hn', _, hw⟩ := DataW.trod_int hu h1
    rw [ho, hc] at hn'
    refine ⟨n, ?_, hw⟩
    have h2 : ((cs.drop i).take 1)[0]? = some (.int (ks.getD i .i64) n) := by
      have : (Value.agg ⟨cs⟩).cells.toList = cs := rfl
      rw [this] at hn'
      rw [hn']; rfl
    rw [List.getElem?_take, if_pos (by omega), List.getElem?_drop] at h2
    simpa using h2
  refine ⟨cs.map num, by rw [List.length_map, hcs], by rw [← rowV_num cs ks hcs fun i hi => (key i hi).imp fun n h => h.1], fun i hi => ?_⟩
  obtain ⟨n, h1, h2⟩ := key i hi
  rw [List.getD_eq_getElem?_getD (l := cs.map num), List.getElem?_map, h1]
  exact h2
/-- An array of numbers, by value. -/
theorem open_array {P : Program} {H : Type} {enc : TypeId × Value → H} {w : World} {base : Nat} {spare : Nat → Bool} {held : Bool} {r : Reach} {b0 : Nat} {t e : TypeId} {k : IntKind} {m : Nat} {v : Value} {d : DataW H} {p : List MemPlace} (ht : P.underlying t = some (.array m e))
    (hn : P.cellsOf t = m) (he : P.cellsOf e = 1) (hu : P.underlying e = some (.int k)) (hv : Value.okWide P w r b0 t v) (h : DataW.Trod enc P w base spare held t v d p) :
    ∃ zs : List Int, zs.length = m ∧ v = .agg ⟨zs.map (.int k)⟩ ∧ ∀ n ∈ zs, (Lit.int k n).wf = true := by
  have hag : ∃ cs, v = .agg cs ∧ cs.size = P.cellsOf t := by
    simp only [Value.okWide, ht] at hv
    obtain ⟨cs, h1, h2, _⟩ := hv
    exact ⟨cs, h1, h2⟩
  obtain ⟨⟨cs⟩, rfl, hsz⟩ := hag
  obtain ⟨fuel, hf⟩ := h
  obtain ⟨xs, q, _, _, _, hxl, hx⟩ := DataW.trod_array ht hf
  have hcs : cs.length = m := by rw [← hn]; exact hsz
  have key : ∀ i, i < m → ∃ n, cs[i]? = some (.int k n) ∧ (Lit.int k n).wf = true := fun i hi => by
    have h1 := hx i hi
    rw [List.getElem?_eq_getElem (by omega)] at h1
    obtain ⟨n, hn', _, hw⟩ := DataW.trod_int hu h1
    rw [he, Nat.mul_one] at hn'
    refine ⟨n, ?_, hw⟩
    have h2 : ((cs.drop i).take 1)[0]? = some (.int k n) := by
      have : (Value.agg ⟨cs⟩).cells.toList = cs := rfl
      rw [this] at hn'
      rw [hn']; rfl
    rw [List.getElem?_take, if_pos (by omega), List.getElem?_drop] at h2
    simpa using h2
  have hall : ∀ v ∈ cs, ∃ n, v = .int k n ∧ (Lit.int k n).wf = true := fun v hv => by
    obtain ⟨i, hi⟩ := List.mem_iff_getElem?.1 hv
    have hlt := (List.getElem?_eq_some_iff.1 hi).1
    obtain ⟨n, h1, h2⟩ := key i (by omega)
    rw [hi] at h1
    exact ⟨n, Option.some.inj h1, h2⟩
  clear key hx hf hsz hv ht
  refine ⟨cs.map num, by rw [List.length_map, hcs], ?_, fun n hn => ?_⟩
  · congr 2
    rw [List.map_map]
    symm
    rw [List.map_congr_left (g := id) (fun v hv => by
      obtain ⟨n, rfl, _⟩ := hall v hv
      rfl)]
    simp
  · obtain ⟨v, hv, rfl⟩ := List.mem_map.1 hn
    obtain ⟨n, rfl, h2⟩ := hall v hv
    exact h2
/-- A row of numbers that was handed in: nothing, or a place in a block. -/
def RowIn (k : IntKind) (w : World) (v : Value) (l : List Int) : Prop :=
  (v = .slice none 0 0 ∧ l = []) ∨ ∃ b off cap, v = .slice (some ⟨b, off, none⟩) l.length cap ∧ (∀ i, i < l.length → w.cell? ⟨b, off + i, none⟩ = some (.int k (l.getD i 0))) ∧ (∀ n ∈ l, (Lit.int k n).wf = true) ∧ ∃ cells ty fr, w.heap[b]? = some (.cells cells ty fr)
theorem open_row {P : Program} {H : Type} {enc : TypeId × Value → H} {w : World} {base : Nat} {r : Reach} {b0 : Nat} {t e : TypeId} {k : IntKind} {v : Value} {d : DataW H} {p : List MemPlace} (ht : P.underlying t = some (.slice e)) (he : P.underlying e = some (.int k)) (hc : P.cellsOf e = 1)
    (hv : Value.okWide P w r b0 t v) (h : DataW.Trod enc P w base (fun _ => true) true t v d p) : ∃ l, RowIn k w v l := by
  obtain ⟨a, len, cap, rfl⟩ := Go.WideShapes.okWide_slice ht hv
  obtain ⟨fuel, hf⟩ := h
  rcases Go.ChangeShapes.open_ints ht he hc hf with ⟨hcs, _⟩ | ⟨x, l, c, zs, hcs, _, hl, hm, hz, _, hcell, hwz⟩
  · simp [Value.cells] at hcs
    obtain ⟨rfl, rfl, rfl⟩ := hcs
    exact ⟨[], .inl ⟨rfl, rfl⟩⟩
  · simp [Value.cells] at hcs
    obtain ⟨rfl, rfl, rfl⟩ := hcs
    have hhas : x.spot = none ∧ ∃ row n, w.shape? x.block = some (row, n) := by
      simp only [Value.okWide, ht, Cell.okWide, Cell.ok] at hv
      obtain ⟨row, n, h1, _⟩ := hv.2.2.2.2
      exact ⟨hv.2.2.2.1, row, n, h1⟩
    obtain ⟨hspot, row, nn, hshape⟩ := hhas
    have hblk : ∃ cells ty fr, w.heap[x.block]? = some (.cells cells ty fr) := by
      unfold World.shape? at hshape
      split at hshape
      · rename_i cells ty fr h
        exact ⟨_, _, _, h⟩
      · cases hshape
    obtain ⟨b, off, spot⟩ := x
    simp only at hspot
    subst hspot
    have hz' : zs.length = cap := by simpa using hz
    refine ⟨zs.take len, .inr ⟨b, off, cap, by rw [List.length_take, Nat.min_eq_left (by omega)], fun i hi => ?_, fun n hn => hwz n (List.mem_of_mem_take hn), hblk⟩⟩
    rw [List.length_take] at hi
    have h1 := hcell i (by omega)
    rw [Addr.add_mid] at h1
    rw [h1]
    congr 2
    rw [List.getD_eq_getElem?_getD, List.getD_eq_getElem?_getD, List.getElem?_take, if_pos (by omega)]
/-- As open_row; and how long the row is that was read. -/
theorem open_row_sized {P : Program} {H : Type} {enc : TypeId × Value → H} {w : World} {base : Nat} {r : Reach} {b0 : Nat} {t e : TypeId} {k : IntKind} {v : Value} {d : DataW H} {p : List MemPlace} (ht : P.underlying t = some (.slice e)) (he : P.underlying e = some (.int k)) (hc : P.cellsOf e = 1)
    (hv : Value.okWide P w r b0 t v) (h : DataW.Trod enc P w base (fun _ => true) true t v d p) : ∃ l, RowIn k w v l ∧ ((l = []) ∨ ∃ elems spare, d = .slice elems spare ∧ elems.length = l.length) := by
  obtain ⟨l, hl⟩ := open_row ht he hc hv h
  refine ⟨l, hl, ?_⟩
  rcases hl with ⟨_, rfl⟩ | ⟨b, off, cap, rfl, _, _⟩
  · exact .inl rfl
  · obtain ⟨fuel, hf⟩ := h
    rcases Go.ChangeShapes.open_ints ht he hc hf with ⟨hcs, _⟩ | ⟨x, len, c, zs, hcs, _, hl, hm, hz, hx, _, _⟩
    · simp [Value.cells] at hcs
    · simp [Value.cells] at hcs
      obtain ⟨_, rfl, rfl⟩ := hcs
      have hz' : zs.length = cap := by simpa using hz
      simp only [Prod.mk.injEq] at hx
      refine .inr ⟨_, _, hx.1, ?_⟩
      simp [Go.ChangeShapes.lits, hz', hl]
/-- The heap that tells of one such row. -/
theorem HR_row' {k : IntKind} {w : World} {b off : Nat} {l : List Int} {ty : TypeId} (hc : ∀ i, i < l.length → w.cell? ⟨b, off + i, none⟩ = some (.int k (l.getD i 0))) (hblk : ∃ cells ty fr, w.heap[b]? = some (.cells cells ty fr)) : HR (fun j => j < 1) (fun _ => b) ⟨[(0, .view off (.ints k l ty))], 1, []⟩ w := by
  obtain ⟨cells, ty', fr, hb⟩ := hblk
  have hget : ∀ n c, (⟨[(0, .view off (.ints k l ty))], 1, []⟩ : Hp).get n = some c → n = 0 ∧ c = .view off (.ints k l ty) := fun n c h => by
    simp only [Hp.get, lookB] at h
    cases hn : Nat.beq 0 n
    · simp [hn] at h
    · simp only [hn, cond_true, Option.some.injEq] at h
      exact ⟨(beq_nat hn).symm, h.symm⟩
  refine ⟨fun ρ' _ n c hn _ => ?_, fun n c hn => ?_, fun n m c d hn hm _ _ _ => .inl ?_⟩
  · obtain ⟨rfl, rfl⟩ := hget n c hn
    refine ⟨_, hb, cells, ty', fr, rfl, fun j v hv => ?_⟩
    simp only [Blk.rowW, List.getElem?_map] at hv
    cases hj : l[j]? with
    | none => rw [hj] at hv; cases hv
    | some z =>
      rw [hj] at hv
      have hlt := (List.getElem?_eq_some_iff.1 hj).1
      have := hc j hlt
      rw [cell_of hb, List.getD_eq_getElem?_getD, hj] at this
      rw [this]
      exact hv
  · obtain ⟨rfl, _⟩ := hget n c hn
    exact Nat.zero_lt_one
  · rw [(hget n c hn).1, (hget m d hm).1]
theorem HR_row {k : IntKind} {w : World} {b off : Nat} {l : List Int} {ty : TypeId} (hc : ∀ i, i < l.length → w.cell? ⟨b, off + i, none⟩ = some (.int k (l.getD i 0))) (hl : 0 < l.length) : HR (fun j => j < 1) (fun _ => b) ⟨[(0, .view off (.ints k l ty))], 1, []⟩ w := by
  refine HR_row' hc ?_
  have := hc 0 hl
  unfold World.cell? at this
  split at this
  · exact ⟨_, _, _, by assumption⟩
  · simp_all
theorem HR_none {w : World} (ρ : Nat → Nat) (n : Nat) : HR (fun j => j < n) ρ ⟨[], n, []⟩ w := ⟨fun _ _ n b h => by simp [Hp.get, lookB] at h, fun n b h => by simp [Hp.get, lookB] at h, fun n m b c h => by simp [Hp.get, lookB] at h⟩
end Go.Proofs.YtocfhiafegkfkaaGreat.Ev
namespace Go.Proofs.YtocfhiafegkfkaaGreat.Ev
open Go Go.RowKit

/-- A row of records of numbers that was handed in: nothing, or a place in a block. -/
def RowR (ks : List IntKind) (w : World) (v : Value) (rows : List (List Int)) : Prop :=
  (v = .slice none 0 0 ∧ rows = []) ∨ ∃ b off cap, v = .slice (some ⟨b, off, none⟩) rows.length cap ∧
    (∀ i, i < rows.length → ∀ j, j < ks.length → w.cell? ⟨b, off + (i * ks.length + j), none⟩ = some (.int (ks.getD j .i64) ((rows.getD i []).getD j 0))) ∧
    (∀ r ∈ rows, r.length = ks.length ∧ ∀ j, j < ks.length → (Lit.int (ks.getD j .i64) (r.getD j 0)).wf = true) ∧ ∃ cells ty fr, w.heap[b]? = some (.cells cells ty fr)

theorem open_recs' {P : Program} {H : Type} {enc : TypeId × Value → H} {w : World} {base : Nat} {r : Reach} {b0 : Nat} {t e : TypeId} {fs : Array Field} {ks : List IntKind} {v : Value} {fuel : Nat} {x : DataW H × List MemPlace} (ht : P.underlying t = some (.slice e)) (he : P.underlying e = some (.struct fs))
    (hn : P.cellsOf e = ks.length) (hfs : ∀ i, i < ks.length → ∃ f, fs[i]? = some f ∧ f.offset = i ∧ P.cellsOf f.type = 1 ∧ P.underlying f.type = some (.int (ks.getD i .i64)))
    (hv : Cell.okWide P w r b0 t v) (hf : DataW.trod enc P w base (fun _ => true) true fuel t [v] = some x) :
    ∃ rows, RowR ks w v rows := by
  rcases Go.Deep.open_slice ht hf with ⟨hcs, _⟩ | ⟨a, len, cap, m, n, D, Pl, hcs, _, hl, _, hm, _, hx⟩
  · simp only [List.cons.injEq, and_true] at hcs
    exact ⟨[], .inl ⟨hcs, rfl⟩⟩
  · simp only [List.cons.injEq, and_true] at hcs
    subst hcs
    have hhas : a.spot = none ∧ ∃ row n, w.shape? a.block = some (row, n) := by
      simp only [ht, Cell.okWide, Cell.ok] at hv
      obtain ⟨row, n, h1, _⟩ := hv.2.2.2.2
      exact ⟨hv.2.2.2.1, row, n, h1⟩
    obtain ⟨hspot, row, nn, hshape⟩ := hhas
    have hblk : ∃ cells ty fr, w.heap[a.block]? = some (.cells cells ty fr) := by
      unfold World.shape? at hshape
      split at hshape
      · rename_i cells ty fr h
        exact ⟨_, _, _, h⟩
      · cases hshape
    obtain ⟨b, off, spot⟩ := a
    simp only at hspot
    subst hspot
    have each : ∀ i, i < len → ∃ r : List Int, r.length = ks.length ∧ ∀ j, j < ks.length → w.cell? ⟨b, off + (i * ks.length + j), none⟩ = some (.int (ks.getD j .i64) (r.getD j 0)) ∧ (Lit.int (ks.getD j .i64) (r.getD j 0)).wf = true := fun i hi => by
      obtain ⟨cs', h1, h2⟩ := hx i (by rw [hm]; simp; omega)
      rw [hn] at h1
      obtain ⟨_, hlen, hcell⟩ := World.cells?_some h1
      obtain ⟨xs, k, _, _, _, hxl, hfld⟩ := DataW.trod_struct he h2
      have key : ∀ j, j < ks.length → ∃ z, cs'[j]? = some (.int (ks.getD j .i64) z) ∧ (Lit.int (ks.getD j .i64) z).wf = true := fun j hj => by
        obtain ⟨f, hfi, ho, hc, hu⟩ := hfs j hj
        have hxi : j < xs.length := by rw [hxl]; exact (Array.getElem?_eq_some_iff.1 hfi).1
        have h3 := hfld j f hfi
        rw [List.getElem?_eq_getElem hxi] at h3
        obtain ⟨z, hz, _, hw⟩ := DataW.trod_int hu h3
        rw [ho, hc] at hz
        refine ⟨z, ?_, hw⟩
        have h4 : ((cs'.drop j).take 1)[0]? = some (.int (ks.getD j .i64) z) := by rw [hz]; rfl
        rw [List.getElem?_take, if_pos (by omega), List.getElem?_drop] at h4
        simpa using h4
      refine ⟨cs'.map num, by rw [List.length_map, hlen], fun j hj => ?_⟩
      obtain ⟨z, hz, hw⟩ := key j hj
      have hg : (cs'.map num).getD j 0 = z := by
        rw [List.getD_eq_getElem?_getD, List.getElem?_map, hz]
        rfl
      rw [hg]
      refine ⟨?_, hw⟩
      have h5 := hcell j (by omega)
      rw [Go.Deep.add_add, Addr.add_mid] at h5
      rw [h5, ← hz, List.getElem?_eq_getElem (by omega)]
    obtain ⟨R, hR⟩ : ∃ R : Nat → List Int, ∀ i, i < len → (R i).length = ks.length ∧ ∀ j, j < ks.length → w.cell? ⟨b, off + (i * ks.length + j), none⟩ = some (.int (ks.getD j .i64) ((R i).getD j 0)) ∧ (Lit.int (ks.getD j .i64) ((R i).getD j 0)).wf = true := by
      refine ⟨fun i => if h : i < len then Classical.choose (each i h) else [], fun i hi => ?_⟩
      simp only [dif_pos hi]
      exact Classical.choose_spec (each i hi)
    have hget : ∀ i, i < len → ((List.range len).map R).getD i [] = R i := fun i hi => by
      rw [List.getD_eq_getElem?_getD, List.getElem?_map, List.getElem?_range hi]
      rfl
    refine ⟨(List.range len).map R, .inr ⟨b, off, cap, by rw [List.length_map, List.length_range], fun i hi j hj => ?_, fun r hr => ?_, hblk⟩⟩
    · rw [List.length_map, List.length_range] at hi
      rw [hget i hi]
      exact ((hR i hi).2 j hj).1
    · obtain ⟨i, hi, rfl⟩ := List.mem_map.1 hr
      have hi := List.mem_range.1 hi
      exact ⟨(hR i hi).1, fun j hj => ((hR i hi).2 j hj).2⟩
theorem open_recs {P : Program} {H : Type} {enc : TypeId × Value → H} {w : World} {base : Nat} {r : Reach} {b0 : Nat} {t e : TypeId} {fs : Array Field} {ks : List IntKind} {v : Value} {d : DataW H} {p : List MemPlace} (ht : P.underlying t = some (.slice e)) (he : P.underlying e = some (.struct fs))
    (hn : P.cellsOf e = ks.length) (hfs : ∀ i, i < ks.length → ∃ f, fs[i]? = some f ∧ f.offset = i ∧ P.cellsOf f.type = 1 ∧ P.underlying f.type = some (.int (ks.getD i .i64)))
    (hv : Value.okWide P w r b0 t v) (h : DataW.Trod enc P w base (fun _ => true) true t v d p) : ∃ rows, RowR ks w v rows := by
  obtain ⟨a, len, cap, rfl⟩ := Go.WideShapes.okWide_slice ht hv
  obtain ⟨fuel, hf⟩ := h
  have hv' : Cell.okWide P w r b0 t (.slice a len cap) := by
    simpa only [Value.okWide, ht] using hv
  exact open_recs' ht he hn hfs hv' hf

/-- A heap of rows that are only read. -/
theorem HR_views {hp : Hp} {ρ : Nat → Nat} {w : World} (h : ∀ n b, hp.get n = some b → n < hp.next ∧ b.isV = true ∧ ∃ o, w.heap[ρ n]? = some o ∧ ∀ ρ', b.sat ρ' o) : HR (fun k => k < hp.next) ρ hp w :=
  ⟨fun ρ' _ n b hb _ => by
    obtain ⟨_, _, o, ho, hs⟩ := h n b hb
    exact ⟨o, ho, hs ρ'⟩, fun n b hb => (h n b hb).1, fun n m b c hb hc _ _ _ => .inr ⟨(h n b hb).2.1, (h m c hc).2.1⟩⟩
theorem sat_ints {k : IntKind} {w : World} {b off : Nat} {l : List Int} {ty : TypeId} (hc : ∀ i, i < l.length → w.cell? ⟨b, off + i, none⟩ = some (.int k (l.getD i 0))) (hblk : ∃ cells ty fr, w.heap[b]? = some (.cells cells ty fr)) :
    ∃ o, w.heap[b]? = some o ∧ ∀ ρ', (Blk.view off (.ints k l ty)).sat ρ' o := by
  obtain ⟨cells, ty', fr, hb⟩ := hblk
  refine ⟨_, hb, fun ρ' => ⟨cells, ty', fr, rfl, fun j v hv => ?_⟩⟩
  simp only [Blk.rowW, List.getElem?_map] at hv
  cases hj : l[j]? with
  | none => rw [hj] at hv; cases hv
  | some z =>
    rw [hj] at hv
    have hlt := (List.getElem?_eq_some_iff.1 hj).1
    have := hc j hlt
    rw [cell_of hb, List.getD_eq_getElem?_getD, hj] at this
    rw [this]
    exact hv
theorem rowV_len : ∀ (ks : List IntKind) (l : List Int), (rowV ks l).length = ks.length
  | [], _ => rfl
  | k :: ks, [] => by simp [rowV, rowV_len ks []]
  | k :: ks, x :: xs => by simp [rowV, rowV_len ks xs]
theorem rowV_at : ∀ (ks : List IntKind) (l : List Int) (j : Nat), j < ks.length → (rowV ks l)[j]? = some (.int (ks.getD j .i64) (l.getD j 0))
  | [], _, j, h => by simp at h
  | k :: ks, [], 0, _ => rfl
  | k :: ks, x :: xs, 0, _ => rfl
  | k :: ks, [], j + 1, h => by
    have := rowV_at ks [] j (by simpa using h)
    simpa [rowV] using this
  | k :: ks, x :: xs, j + 1, h => by
    have := rowV_at ks xs j (by simpa using h)
    simpa [rowV] using this
theorem flatRow_at (ks : List IntKind) : ∀ (rows : List (List Int)) (q : Nat) (v : Value), (rows.flatMap (rowV ks))[q]? = some v → ∃ i j, i < rows.length ∧ j < ks.length ∧ q = i * ks.length + j ∧ v = .int (ks.getD j .i64) ((rows.getD i []).getD j 0)
  | [], q, v, h => by simp at h
  | r :: rows, q, v, h => by
    rw [List.flatMap_cons] at h
    by_cases hq : q < ks.length
    · rw [List.getElem?_append_left (by rw [rowV_len]; exact hq), rowV_at ks r q hq] at h
      exact ⟨0, q, by simp, hq, by simp, (Option.some.inj h).symm⟩
    · rw [List.getElem?_append_right (by rw [rowV_len]; omega), rowV_len] at h
      obtain ⟨i, j, h1, h2, h3, h4⟩ := flatRow_at ks rows _ _ h
      refine ⟨i + 1, j, by simp; omega, h2, ?_, by simpa using h4⟩
      rw [Nat.add_mul]
      omega
theorem sat_recs {ks : List IntKind} {w : World} {b off : Nat} {rows : List (List Int)} {ty : TypeId} (hc : ∀ i, i < rows.length → ∀ j, j < ks.length → w.cell? ⟨b, off + (i * ks.length + j), none⟩ = some (.int (ks.getD j .i64) ((rows.getD i []).getD j 0))) (hblk : ∃ cells ty fr, w.heap[b]? = some (.cells cells ty fr)) :
    ∃ o, w.heap[b]? = some o ∧ ∀ ρ', (Blk.view off (.recs ks rows ty)).sat ρ' o := by
  obtain ⟨cells, ty', fr, hb⟩ := hblk
  refine ⟨_, hb, fun ρ' => ⟨cells, ty', fr, rfl, fun q v hv => ?_⟩⟩
  obtain ⟨i, j, h1, h2, rfl, rfl⟩ := flatRow_at ks rows q v hv
  have := hc i h1 j h2
  rw [cell_of hb] at this
  exact this
/-- Two rows. -/
theorem HR_two {ρ : Nat → Nat} {w : World} {b0 b1 : Blk} (v0 : b0.isV = true) (v1 : b1.isV = true) (h0 : ∃ o, w.heap[ρ 0]? = some o ∧ ∀ ρ', b0.sat ρ' o) (h1 : ∃ o, w.heap[ρ 1]? = some o ∧ ∀ ρ', b1.sat ρ' o) : HR (fun k => k < 2) ρ ⟨[(0, b0), (1, b1)], 2, []⟩ w := by
  refine HR_views (hp := ⟨[(0, b0), (1, b1)], 2, []⟩) fun n b hb => ?_
  simp only [Hp.get, lookB] at hb
  cases hn : Nat.beq 0 n
  · simp only [hn, cond_false] at hb
    cases hn1 : Nat.beq 1 n
    · simp [hn1] at hb
    · simp only [hn1, cond_true, Option.some.injEq] at hb
      have := beq_nat hn1
      subst this; subst hb
      exact ⟨Nat.lt_succ_self _, v1, h1⟩
  · simp only [hn, cond_true, Option.some.injEq] at hb
    have := beq_nat hn
    subst this; subst hb
    exact ⟨Nat.zero_lt_succ _, v0, h0⟩
theorem two_isV {b0 b1 : Blk} {nx : Nat} {log : List Nat} (v0 : b0.isV = true) (v1 : b1.isV = true) : ∀ k d, (⟨[(0, b0), (1, b1)], nx, log⟩ : Hp).get k = some d → d.isV = true := fun k d hd => by
  simp only [Hp.get, lookB] at hd
  cases hn : Nat.beq 0 k
  · simp only [hn, cond_false] at hd
    cases hn1 : Nat.beq 1 k
    · simp [hn1] at hd
    · simp only [hn1, cond_true, Option.some.injEq] at hd
      rw [← hd]; exact v1
  · simp only [hn, cond_true, Option.some.injEq] at hd
    rw [← hd]; exact v0
/-- One row, with names beside it that are not told. -/
theorem HR_row2 {k : IntKind} {w : World} {ρ : Nat → Nat} {off N : Nat} {l : List Int} {ty : TypeId} (hN : 0 < N) (hc : ∀ i, i < l.length → w.cell? ⟨ρ 0, off + i, none⟩ = some (.int k (l.getD i 0))) (hblk : ∃ cells ty fr, w.heap[ρ 0]? = some (.cells cells ty fr)) : HR (fun j => j < N) ρ ⟨[(0, .view off (.ints k l ty))], N, []⟩ w := by
  refine HR_views (hp := ⟨[(0, .view off (.ints k l ty))], N, []⟩) fun n b hb => ?_
  simp only [Hp.get, lookB] at hb
  cases hn : Nat.beq 0 n
  · simp [hn] at hb
  · simp only [hn, cond_true, Option.some.injEq] at hb
    have := beq_nat hn
    subst this; subst hb
    exact ⟨hN, rfl, sat_ints hc hblk⟩
/-- The value of a slice that was handed in, by a name, where it is not looked into. -/
def anyB (k : Nat) (a : Option Addr) : Option Addr := a.map fun x => ⟨k, x.off, none⟩
theorem anyB_rel (k : Nat) (a : Option Addr) (ρ' : Nat → Nat) (n cap : Nat) (h : ρ' k = (a.map Addr.block).getD 0) : ren ρ' (.slice (anyB k a) n cap) = .slice (a.map fun x => ⟨x.block, x.off, none⟩) n cap := by
  cases a with
  | none => rfl
  | some x => simp [anyB, ren, h]
end Go.Proofs.YtocfhiafegkfkaaGreat.Ev
namespace Go.Proofs.YtocfhiafegkfkaaGreat.Ev
open Go Go.RowKit

theorem open_play {P : Program} {H : Type} {enc : TypeId × Value → H} {w : World} {base : Nat} {r : Reach} {b0 : Nat} {t st e : TypeId} {fs fe : Array Field} {ks kk : List IntKind} {ts : List TypeId} {v : Value} {d : DataW H} {p : List MemPlace} (ht : P.underlying t = some (.struct fs))
    (hn : P.cellsOf t = ks.length + 1) (hfs : ∀ i, i < ks.length → ∃ f, fs[i]? = some f ∧ f.offset = i ∧ P.cellsOf f.type = 1 ∧ P.underlying f.type = some (.int (ks.getD i .i64)))
    (hl : ∃ f, fs[ks.length]? = some f ∧ f.offset = ks.length ∧ P.cellsOf f.type = 1 ∧ f.type = st) (hts : P.cellTypes P.depth t = some ts) (htl : ts.length = ks.length + 1) (hte : ts[ks.length]? = some st)
    (hst : P.underlying st = some (.slice e)) (he : P.underlying e = some (.struct fe)) (hne : P.cellsOf e = kk.length) (hfe : ∀ i, i < kk.length → ∃ f, fe[i]? = some f ∧ f.offset = i ∧ P.cellsOf f.type = 1 ∧ P.underlying f.type = some (.int (kk.getD i .i64)))
    (hv : Value.okWide P w r b0 t v) (h : DataW.Trod enc P w base (fun _ => true) true t v d p) :
    ∃ (zs : List Int) (sv : Value) (rows : List (List Int)), zs.length = ks.length ∧ v = .agg ⟨rowV ks zs ++ [sv]⟩ ∧ (∀ i, i < ks.length → (Lit.int (ks.getD i .i64) (zs.getD i 0)).wf = true) ∧ RowR kk w sv rows := by
  obtain ⟨cs, rfl, hsz⟩ := Go.WideShapes.okWide_struct ht hv
  obtain ⟨fuel, hf⟩ := h
  obtain ⟨xs, m, _, _, _, hxl, hx⟩ := DataW.trod_struct ht hf
  obtain ⟨cs⟩ := cs
  have hcs : cs.length = ks.length + 1 := by rw [← hn]; exact hsz
  have key : ∀ i, i < ks.length → ∃ n, cs[i]? = some (.int (ks.getD i .i64) n) ∧ (Lit.int (ks.getD i .i64) n).wf = true := fun i hi => by
    obtain ⟨f, hfi, ho, hc, hu⟩ := hfs i hi
    have hxi : i < xs.length := by rw [hxl]; exact (Array.getElem?_eq_some_iff.1 hfi).1
    have h1 := hx i f hfi
    rw [List.getElem?_eq_getElem hxi] at h1
    obtain ⟨n, hn', _, hw⟩ := DataW.trod_int hu h1
    rw [ho, hc] at hn'
    refine ⟨n, ?_, hw⟩
    have h2 : ((cs.drop i).take 1)[0]? = some (.int (ks.getD i .i64) n) := by
      have : (Value.agg ⟨cs⟩).cells.toList = cs := rfl
      rw [this] at hn'
      rw [hn']; rfl
    rw [List.getElem?_take, if_pos (by omega), List.getElem?_drop] at h2
    simpa using h2
  obtain ⟨f, hfi, ho, hc, rfl⟩ := hl
  have hlt : ks.length < cs.length := by omega
  have hxi : ks.length < xs.length := by rw [hxl]; exact (Array.getElem?_eq_some_iff.1 hfi).1
  have h1 := hx _ f hfi
  rw [List.getElem?_eq_getElem hxi] at h1
  have hcell : ((Value.agg ⟨cs⟩).cells.toList.drop f.offset).take (P.cellsOf f.type) = [cs[ks.length]] := by
    have : (Value.agg ⟨cs⟩).cells.toList = cs := rfl
    rw [this, ho, hc]
    apply List.ext_getElem?
    intro i
    rw [List.getElem?_take]
    split
    · rename_i h
      have : i = 0 := by omega
      subst this
      rw [List.getElem?_drop]
      simp [List.getElem?_eq_getElem hlt]
    · rename_i h
      rw [List.getElem?_eq_none (by simp; omega)]
  rw [hcell] at h1
  have hok : Cell.okWide P w r b0 f.type cs[ks.length] := by
    simp only [Value.okWide, ht] at hv
    obtain ⟨cs', e1, _, ts', q1, _, q3⟩ := hv
    injection e1 with e1
    subst e1
    rw [hts] at q1
    obtain rfl := Option.some.inj q1
    obtain ⟨u, u1, u2⟩ := q3 ks.length cs[ks.length] (by simp [List.getElem?_eq_getElem hlt])
    rw [htl, Nat.mod_eq_of_lt (by omega), hte] at u1
    obtain rfl := Option.some.inj u1
    exact u2
  obtain ⟨rows, hrows⟩ := open_recs' hst he hne hfe hok h1
  refine ⟨(cs.take ks.length).map num, cs[ks.length], rows, by rw [List.length_map, List.length_take]; omega, ?_, fun i hi => ?_, hrows⟩
  · have e := rowV_num (cs.take ks.length) ks (by rw [List.length_take]; omega) fun i hi => (key i hi).imp fun n h => by rw [List.getElem?_take, if_pos hi]; exact h.1
    rw [← e]
    congr 2
    apply List.ext_getElem?
    intro i
    rw [List.getElem?_append, List.getElem?_take, List.length_take]
    split
    · rename_i h
      rw [if_pos (by omega)]
    · rename_i h
      by_cases hi : i = ks.length
      · subst hi
        rw [show ks.length - min ks.length cs.length = 0 by omega]
        simp [List.getElem?_eq_getElem hlt]
      · rw [List.getElem?_eq_none (by omega), List.getElem?_eq_none (by simp; omega)]
  · obtain ⟨n, h1, h2⟩ := key i hi
    rw [List.getD_eq_getElem?_getD (l := (cs.take ks.length).map num), List.getElem?_map, List.getElem?_take, if_pos hi, h1]
    exact h2
end Go.Proofs.YtocfhiafegkfkaaGreat.Ev
namespace Go.Proofs.YtocfhiafegkfkaaGreat.Ev
open Go Go.RowKit

/-- A row of bools that was handed in: nothing, or a place in a block. -/
def RowB (w : World) (v : Value) (L : List Bool) : Prop :=
  (v = .slice none 0 0 ∧ L = []) ∨ ∃ b off cap, v = .slice (some ⟨b, off, none⟩) L.length cap ∧ (∀ i, i < L.length → w.cell? ⟨b, off + i, none⟩ = some (.bool (L.getD i false))) ∧ ∃ cells ty fr, w.heap[b]? = some (.cells cells ty fr)
theorem open_bools' {P : Program} {H : Type} {enc : TypeId × Value → H} {w : World} {base : Nat} {r : Reach} {b0 : Nat} {t e : TypeId} {v : Value} {fuel : Nat} {x : DataW H × List MemPlace} (ht : P.underlying t = some (.slice e)) (he : P.underlying e = some .bool) (hn : P.cellsOf e = 1)
    (hv : Cell.okWide P w r b0 t v) (hf : DataW.trod enc P w base (fun _ => true) true fuel t [v] = some x) : ∃ L, RowB w v L := by
  rcases Go.Deep.open_slice1 ht hn hf with ⟨hcs, _⟩ | ⟨a, len, cap, m, n, V, D, Pl, hcs, _, hl, _, hm, _, hx⟩
  · simp only [List.cons.injEq, and_true] at hcs
    exact ⟨[], .inl ⟨hcs, rfl⟩⟩
  · simp only [List.cons.injEq, and_true] at hcs
    subst hcs
    have hhas : a.spot = none ∧ ∃ row n, w.shape? a.block = some (row, n) := by
      simp only [ht, Cell.okWide, Cell.ok] at hv
      obtain ⟨row, n, h1, _⟩ := hv.2.2.2.2
      exact ⟨hv.2.2.2.1, row, n, h1⟩
    obtain ⟨hspot, row, nn, hshape⟩ := hhas
    have hblk : ∃ cells ty fr, w.heap[a.block]? = some (.cells cells ty fr) := by
      unfold World.shape? at hshape
      split at hshape
      · rename_i cells ty fr h
        exact ⟨_, _, _, h⟩
      · cases hshape
    obtain ⟨b, off, spot⟩ := a
    simp only at hspot
    subst hspot
    have each : ∀ i, i < len → ∃ z : Bool, w.cell? ⟨b, off + i, none⟩ = some (.bool z) := fun i hi => by
      obtain ⟨h1, h2⟩ := hx i (by rw [hm]; simp; omega)
      obtain ⟨z, hz, _⟩ := DataW.trod_bool he h2
      simp only [List.cons.injEq, and_true] at hz
      rw [Addr.add_mid, hz] at h1
      exact ⟨z, h1⟩
    obtain ⟨R, hR⟩ : ∃ R : Nat → Bool, ∀ i, i < len → w.cell? ⟨b, off + i, none⟩ = some (.bool (R i)) := by
      refine ⟨fun i => if h : i < len then Classical.choose (each i h) else false, fun i hi => ?_⟩
      simp only [dif_pos hi]
      exact Classical.choose_spec (each i hi)
    refine ⟨(List.range len).map R, .inr ⟨b, off, cap, by rw [List.length_map, List.length_range], fun i hi => ?_, hblk⟩⟩
    rw [List.length_map, List.length_range] at hi
    rw [hR i hi, List.getD_eq_getElem?_getD, List.getElem?_map, List.getElem?_range hi]
    rfl
theorem sat_bools {w : World} {b off : Nat} {L : List Bool} {ty : TypeId} (hc : ∀ i, i < L.length → w.cell? ⟨b, off + i, none⟩ = some (.bool (L.getD i false))) (hblk : ∃ cells ty fr, w.heap[b]? = some (.cells cells ty fr)) :
    ∃ o, w.heap[b]? = some o ∧ ∀ ρ', (Blk.view off (.bools L ty)).sat ρ' o := by
  obtain ⟨cells, ty', fr, hb⟩ := hblk
  refine ⟨_, hb, fun ρ' => ⟨cells, ty', fr, rfl, fun j v hv => ?_⟩⟩
  simp only [Blk.rowW, List.getElem?_map] at hv
  cases hj : L[j]? with
  | none => rw [hj] at hv; cases hv
  | some z =>
    rw [hj] at hv
    have hlt := (List.getElem?_eq_some_iff.1 hj).1
    have := hc j hlt
    rw [cell_of hb, List.getD_eq_getElem?_getD, hj] at this
    rw [this]
    exact hv
/-- A struct of one number, and a row of bools. -/
theorem open_turns {P : Program} {H : Type} {enc : TypeId × Value → H} {w : World} {base : Nat} {r : Reach} {b0 : Nat} {t st e it : TypeId} {f0 f1 : Field} {k : IntKind} {v : Value} {d : DataW H} {p : List MemPlace} (ht : P.underlying t = some (.struct #[f0, f1])) (hn : P.cellsOf t = 2)
    (h0 : f0.offset = 0 ∧ P.cellsOf f0.type = 1 ∧ P.underlying f0.type = some (.int k)) (h1 : f1.offset = 1 ∧ P.cellsOf f1.type = 1 ∧ f1.type = st) (hts : P.cellTypes P.depth t = some [it, st])
    (hst : P.underlying st = some (.slice e)) (he : P.underlying e = some .bool) (hne : P.cellsOf e = 1) (hv : Value.okWide P w r b0 t v) (h : DataW.Trod enc P w base (fun _ => true) true t v d p) :
    ∃ (z : Int) (sv : Value) (L : List Bool), v = .agg ⟨[.int k z, sv]⟩ ∧ (Lit.int k z).wf = true ∧ RowB w sv L := by
  obtain ⟨cs, rfl, hsz⟩ := Go.WideShapes.okWide_struct ht hv
  obtain ⟨fuel, hf⟩ := h
  obtain ⟨xs, m, _, _, _, hxl, hx⟩ := DataW.trod_struct ht hf
  obtain ⟨cs⟩ := cs
  rw [hn] at hsz
  match cs, hsz with
  | [v0, v1], _ =>
    obtain ⟨o0, c0, u0⟩ := h0
    obtain ⟨o1, c1, rfl⟩ := h1
    match xs, hxl with
    | [y0, y1], _ =>
      have g0 := hx 0 f0 rfl
      have g1 := hx 1 f1 rfl
      simp [o0, c0, Value.cells] at g0
      simp [o1, c1, Value.cells] at g1
      obtain ⟨z, hz, _, hw⟩ := DataW.trod_int u0 g0
      simp only [List.cons.injEq, and_true] at hz
      subst hz
      have hok : Cell.okWide P w r b0 f1.type v1 := by
        simp only [Value.okWide, ht] at hv
        obtain ⟨cs', q0, _, ts', q1, _, q3⟩ := hv
        injection q0 with q0
        subst q0
        rw [hts] at q1
        obtain rfl := Option.some.inj q1
        obtain ⟨u, u1, u2⟩ := q3 1 v1 rfl
        obtain rfl : f1.type = u := by simpa using u1
        exact u2
      obtain ⟨L, hL⟩ := open_bools' hst he hne hok g1
      exact ⟨z, v1, L, rfl, hw, hL⟩
end Go.Proofs.YtocfhiafegkfkaaGreat.Ev
namespace Go.Proofs.YtocfhiafegkfkaaGreat.Ev
open Go Go.RowKit

inductive Sh where
  | int (k : IntKind)
  | bool
  | ints (k : IntKind) (e : TypeId)
  | bools (e : TypeId)
  | recs (kk : List IntKind) (e : TypeId) (fe : Array Field)
def Sh.at (w : World) : Sh → Value → Prop
  | .int k, v => ∃ z, v = .int k z ∧ (Lit.int k z).wf = true
  | .bool, v => ∃ b, v = .bool b
  | .ints k _, v => ∃ l, RowIn k w v l
  | .bools _, v => ∃ L, RowB w v L
  | .recs kk _ _, v => ∃ rows, RowR kk w v rows
def Sh.typ (P : Program) : Sh → TypeId → Prop
  | .int k, t => P.underlying t = some (.int k)
  | .bool, t => P.underlying t = some .bool
  | .ints k e, t => P.underlying t = some (.slice e) ∧ P.underlying e = some (.int k) ∧ P.cellsOf e = 1
  | .bools e, t => P.underlying t = some (.slice e) ∧ P.underlying e = some .bool ∧ P.cellsOf e = 1
  | .recs kk e fe, t => P.underlying t = some (.slice e) ∧ P.underlying e = some (.struct fe) ∧ P.cellsOf e = kk.length ∧ ∀ i, i < kk.length → ∃ f, fe[i]? = some f ∧ f.offset = i ∧ P.cellsOf f.type = 1 ∧ P.underlying f.type = some (.int (kk.getD i .i64))
theorem open_ints' {P : Program} {H : Type} {enc : TypeId × Value → H} {w : World} {base : Nat} {r : Reach} {b0 : Nat} {t e : TypeId} {k : IntKind} {v : Value} {fuel : Nat} {y : DataW H × List MemPlace} (ht : P.underlying t = some (.slice e)) (he : P.underlying e = some (.int k)) (hc : P.cellsOf e = 1)
    (hv : Cell.okWide P w r b0 t v) (hf : DataW.trod enc P w base (fun _ => true) true fuel t [v] = some y) : ∃ l, RowIn k w v l := by
  rcases Go.ChangeShapes.open_ints ht he hc hf with ⟨hcs, _⟩ | ⟨x, l, c, zs, hcs, _, hl, hm, hz, _, hcell, hwz⟩
  · simp only [List.cons.injEq, and_true] at hcs
    exact ⟨[], .inl ⟨hcs, rfl⟩⟩
  · simp only [List.cons.injEq, and_true] at hcs
    subst hcs
    have hhas : x.spot = none ∧ ∃ row n, w.shape? x.block = some (row, n) := by
      simp only [ht, Cell.okWide, Cell.ok] at hv
      obtain ⟨row, n, h1, _⟩ := hv.2.2.2.2
      exact ⟨hv.2.2.2.1, row, n, h1⟩
    obtain ⟨hspot, row, nn, hshape⟩ := hhas
    have hblk : ∃ cells ty fr, w.heap[x.block]? = some (.cells cells ty fr) := by
      unfold World.shape? at hshape
      split at hshape
      · rename_i cells ty fr h
        exact ⟨_, _, _, h⟩
      · cases hshape
    obtain ⟨b, off, spot⟩ := x
    simp only at hspot
    subst hspot
    have hz' : zs.length = c := by simpa using hz
    refine ⟨zs.take l, .inr ⟨b, off, c, by rw [List.length_take, Nat.min_eq_left (by omega)], fun i hi => ?_, fun n hn => hwz n (List.mem_of_mem_take hn), hblk⟩⟩
    rw [List.length_take] at hi
    have h1 := hcell i (by omega)
    rw [Addr.add_mid] at h1
    rw [h1]
    congr 2
    rw [List.getD_eq_getElem?_getD, List.getD_eq_getElem?_getD, List.getElem?_take, if_pos (by omega)]
theorem open_sh {P : Program} {H : Type} {enc : TypeId × Value → H} {w : World} {base : Nat} {r : Reach} {b0 : Nat} {t : TypeId} {sh : Sh} {v : Value} {fuel : Nat} {y : DataW H × List MemPlace} (ht : sh.typ P t)
    (hv : Cell.okWide P w r b0 t v) (hf : DataW.trod enc P w base (fun _ => true) true fuel t [v] = some y) : sh.at w v := by
  cases sh with
  | int k =>
    obtain ⟨z, hz, _, hw⟩ := DataW.trod_int ht hf
    simp only [List.cons.injEq, and_true] at hz
    exact ⟨z, hz, hw⟩
  | bool =>
    obtain ⟨b, hb, _⟩ := DataW.trod_bool ht hf
    simp only [List.cons.injEq, and_true] at hb
    exact ⟨b, hb⟩
  | ints k e => exact open_ints' ht.1 ht.2.1 ht.2.2 hv hf
  | bools e => exact open_bools' ht.1 ht.2.1 ht.2.2 hv hf
  | recs kk e fe => exact open_recs' ht.1 ht.2.1 ht.2.2.1 ht.2.2.2 hv hf
theorem open_struct {P : Program} {H : Type} {enc : TypeId × Value → H} {w : World} {base : Nat} {r : Reach} {b0 : Nat} {t : TypeId} {fs : Array Field} {shs : List Sh} {ts : List TypeId} {v : Value} {d : DataW H} {p : List MemPlace} (ht : P.underlying t = some (.struct fs))
    (hn : P.cellsOf t = shs.length) (hts : P.cellTypes P.depth t = some ts) (htl : ts.length = shs.length)
    (hfs : ∀ i, i < shs.length → ∃ f, fs[i]? = some f ∧ f.offset = i ∧ P.cellsOf f.type = 1 ∧ ts[i]? = some f.type ∧ (shs.getD i .bool).typ P f.type)
    (hv : Value.okWide P w r b0 t v) (h : DataW.Trod enc P w base (fun _ => true) true t v d p) :
    ∃ vs : List Value, vs.length = shs.length ∧ v = .agg ⟨vs⟩ ∧ ∀ i, i < shs.length → (shs.getD i .bool).at w (vs.getD i undef) := by
  obtain ⟨cs, rfl, hsz⟩ := Go.WideShapes.okWide_struct ht hv
  obtain ⟨fuel, hf⟩ := h
  obtain ⟨xs, m, _, _, _, hxl, hx⟩ := DataW.trod_struct ht hf
  obtain ⟨cs⟩ := cs
  have hcs : cs.length = shs.length := by rw [← hn]; exact hsz
  refine ⟨cs, hcs, rfl, fun i hi => ?_⟩
  obtain ⟨f, hfi, ho, hc, hti, hty⟩ := hfs i hi
  have hlt : i < cs.length := by omega
  have hxi : i < xs.length := by rw [hxl]; exact (Array.getElem?_eq_some_iff.1 hfi).1
  have h1 := hx _ f hfi
  rw [List.getElem?_eq_getElem hxi] at h1
  have hcell : ((Value.agg ⟨cs⟩).cells.toList.drop f.offset).take (P.cellsOf f.type) = [cs[i]] := by
    have : (Value.agg ⟨cs⟩).cells.toList = cs := rfl
    rw [this, ho, hc]
    apply List.ext_getElem?
    intro k
    rw [List.getElem?_take]
    split
    · rename_i h
      have : k = 0 := by omega
      subst this
      rw [List.getElem?_drop]
      simp [List.getElem?_eq_getElem hlt]
    · rename_i h
      rw [List.getElem?_eq_none (by simp; omega)]
  rw [hcell] at h1
  have hok : Cell.okWide P w r b0 f.type cs[i] := by
    simp only [Value.okWide, ht] at hv
    obtain ⟨cs', e1, _, ts', q1, _, q3⟩ := hv
    injection e1 with e1
    subst e1
    rw [hts] at q1
    obtain rfl := Option.some.inj q1
    obtain ⟨u, u1, u2⟩ := q3 i cs[i] (by simp [List.getElem?_eq_getElem hlt])
    rw [htl, Nat.mod_eq_of_lt hi, hti] at u1
    obtain rfl := Option.some.inj u1
    exact u2
  have := open_sh hty hok h1
  rw [List.getD_eq_getElem?_getD (l := cs), List.getElem?_eq_getElem hlt]
  exact this
end Go.Proofs.YtocfhiafegkfkaaGreat.Ev
