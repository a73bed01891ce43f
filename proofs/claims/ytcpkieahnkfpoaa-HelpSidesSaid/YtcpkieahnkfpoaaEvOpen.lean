/- What a call is handed, as data that the evaluator knows; what it leaves. -/
import Derived.Test.YtcpkieahnkfpoaaEvStack
import Derived.Below
import Derived.WideShapes
import Derived.ChangeSlices
import Derived.OpenShut
namespace Go.Proofs.Ytcpkieahnkfpoaa.Ev
open Go Go.RowKit

theorem below_of_FR {ρ ρ1 : Nat → Nat} {hp hp1 : Hp} {w w1 : World} (h : FR ρ ρ1 hp hp1 w w1) (hv : ∀ n b, hp.get n = some b → b.isV = true) : Below w.heap.size w w1 :=
  ⟨h.os, h.tape, h.output, h.size, fun k hk => h.old k hk fun n b hb hb' => by rw [hv n b hb] at hb'; cases hb'⟩

/-- A call, told by a path, of what was handed in: it returns that, and changes nothing that was there. -/
theorem calls_of_path {E : Env} (hE : EnvOk E) (n : Nat) {f : FuncId} {args : List Value} {hp : Hp} {ds : List Dec} {out : Out} (h : doCall E n f args hp ds = some out) (hpc : ∀ p ∈ out.pc, p) (hclo : clo out.v = true) (hvw : ∀ k b, hp.get k = some b → b.isV = true)
    {ρ : Nat → Nat} {w : World} {cargs : List Value} (hargs : VRL (fun k => k < hp.next) ρ args cargs) (hH : HR (fun k => k < hp.next) ρ hp w) : Calls E.P f ⟨cargs⟩ w fun e w1 => e = .returned out.v ∧ Below w.heap.size w w1 := by
  obtain ⟨_, _, h1⟩ := doCall_ok hE n f args hp ds out h
  refine (h1 hpc _ ρ w cargs hargs hH (fun k h1 _ h3 => by omega)).mono fun e w1 he => ?_
  obtain ⟨u, rfl, ρ1, _, _, hv, hfr⟩ := he
  rw [hv.self, ren_clo ρ1 hclo]
  exact ⟨rfl, below_of_FR hfr hvw⟩

theorem calls_of_C {P : Program} {f : FuncId} {args : List Value} {hp hp1 : Hp} {v : Value} (hC : CallC P f args hp v hp1) (hclo : clo v = true) (hvw : ∀ k b, hp.get k = some b → b.isV = true)
    {ρ : Nat → Nat} {w : World} {cargs : List Value} (hargs : VRL (fun k => k < hp.next) ρ args cargs) (hH : HR (fun k => k < hp.next) ρ hp w) : Calls P f ⟨cargs⟩ w fun e w1 => e = .returned v ∧ Below w.heap.size w w1 :=
  (hC.2 ρ w cargs hargs hH).mono fun e w1 he => by
    obtain ⟨u, ρ1, rfl, _, _, hv, hfr⟩ := he
    rw [hv.self, ren_clo ρ1 hclo]
    exact ⟨rfl, below_of_FR hfr hvw⟩

def num : Value → Int
  | .int _ n => n
  | _ => 0
theorem rowV_num : ∀ (cs : List Value) (ks : List IntKind), cs.length = ks.length → (∀ i, i < ks.length → ∃ n, cs[i]? = some (.int (ks.getD i .i64) n)) → cs = rowV ks (cs.map num)
  | [], [], _, _ => rfl
  | [], _ :: _, h, _ => by simp at h
  | _ :: _, [], h, _ => by simp at h
  | c :: cs, k :: ks, h, hk => by
    obtain ⟨n, hn⟩ := hk 0 (by simp)
    simp only [List.getElem?_cons_zero, Option.some.injEq] at hn
    subst hn
    have ih := rowV_num cs ks (by simpa using h) fun i hi => by
      have := hk (i + 1) (by simpa using hi)
      simpa using this
    rw [List.map_cons]
    show Value.int k n :: cs = .int k n :: rowV ks (cs.map num)
    rw [← ih]
/-- A struct of numbers, by value. -/
theorem open_flat {P : Program} {H : Type} {enc : TypeId × Value → H} {w : World} {base : Nat} {spare : Nat → Bool} {held : Bool} {r : Reach} {b0 : Nat} {t : TypeId} {fs : Array Field} {ks : List IntKind} {v : Value} {d : DataW H} {p : List MemPlace} (ht : P.underlying t = some (.struct fs))
    (hn : P.cellsOf t = ks.length) (hfs : ∀ i, i < ks.length → ∃ f, fs[i]? = some f ∧ f.offset = i ∧ P.cellsOf f.type = 1 ∧ P.underlying f.type = some (.int (ks.getD i .i64)))
    (hv : Value.okWide P w r b0 t v) (h : DataW.Trod enc P w base spare held t v d p) :
    ∃ zs : List Int, zs.length = ks.length ∧ v = .agg ⟨rowV ks zs⟩ ∧ ∀ i, i < ks.length → (Lit.int (ks.getD i .i64) (zs.getD i 0)).wf = true := by
  obtain ⟨cs, rfl, hsz⟩ := Go.WideShapes.okWide_struct ht hv
  obtain ⟨fuel, hf⟩ := h
  obtain ⟨xs, m, _, _, _, hxl, hx⟩ := DataW.trod_struct ht hf
  obtain ⟨cs⟩ := cs
  have hcs : cs.length = ks.length := by rw [← hn]; exact hsz
  have key : ∀ i, i < ks.length → ∃ n, cs[i]? = some (.int (ks.getD i .i64) n) ∧ (Lit.int (ks.getD i .i64) n).wf = true := fun i hi => by
    obtain ⟨f, hfi, ho, hc, hu⟩ := hfs i hi
    have hxi : i < xs.length := by rw [hxl]; exact (Array.getElem?_eq_some_iff.1 hfi).1
    have h1 := hx i f hfi
    rw [List.getElem?_eq_getElem hxi] at h1
    obtain ⟨n, hn', _, hw⟩ := DataW.trod_int hu h1
    rw [ho, hc] at hn'
    refine ⟨n, ?_, hw⟩
    have h2 : ((cs.drop i).take 1)[0]? = some (.int (ks.getD i .i64) n) := by
      have : (Value.agg ⟨cs⟩).cells.toList = cs := rfl
      rw [this] at hn'
      rw [hn']; rfl
    rw [List.getElem?_take, if_pos (by omega), List.getElem?_drop] at h2
    simpa using h2
  refine ⟨cs.map num, by rw [List.length_map, hcs], by rw [← rowV_num cs ks hcs fun i hi => (key i hi).imp fun n h => h.1], fun i hi => ?_⟩
  obtain ⟨n, h1, h2⟩ := key i hi
  rw [List.getD_eq_getElem?_getD (l := cs.map num), List.getElem?_map, h1]
  exact h2
/-- An array of numbers, by value. -/
theorem open_array {P : Program} {H : Type} {enc : TypeId × Value → H} {w : World} {base : Nat} {spare : Nat → Bool} {held : Bool} {r : Reach} {b0 : Nat} {t e : TypeId} {k : IntKind} {m : Nat} {v : Value} {d : DataW H} {p : List MemPlace} (ht : P.underlying t = some (.array m e))
    (hn : P.cellsOf t = m) (he : P.cellsOf e = 1) (hu : P.underlying e = some (.int k)) (hv : Value.okWide P w r b0 t v) (h : DataW.Trod enc P w base spare held t v d p) :
    ∃ zs : List Int, zs.length = m ∧ v = .agg ⟨zs.map (.int k)⟩ ∧ ∀ n ∈ zs, (Lit.int k n).wf = true := by
  have hag : ∃ cs, v = .agg cs ∧ cs.size = P.cellsOf t := by
    simp only [Value.okWide, ht] at hv
    obtain ⟨cs, h1, h2, _⟩ := hv
    exact ⟨cs, h1, h2⟩
  obtain ⟨⟨cs⟩, rfl, hsz⟩ := hag
  obtain ⟨fuel, hf⟩ := h
  obtain ⟨xs, q, _, _, _, hxl, hx⟩ := DataW.trod_array ht hf
  have hcs : cs.length = m := by rw [← hn]; exact hsz
  have key : ∀ i, i < m → ∃ n, cs[i]? = some (.int k n) ∧ (Lit.int k n).wf = true := fun i hi => by
    have h1 := hx i hi
    rw [List.getElem?_eq_getElem (by omega)] at h1
    obtain ⟨n, hn', _, hw⟩ := DataW.trod_int hu h1
    rw [he, Nat.mul_one] at hn'
    refine ⟨n, ?_, hw⟩
    have h2 : ((cs.drop i).take 1)[0]? = some (.int k n) := by
      have : (Value.agg ⟨cs⟩).cells.toList = cs := rfl
      rw [this] at hn'
      rw [hn']; rfl
    rw [List.getElem?_take, if_pos (by omega), List.getElem?_drop] at h2
    simpa using h2
  have hall : ∀ v ∈ cs, ∃ n, v = .int k n ∧ (Lit.int k n).wf = true := fun v hv => by
    obtain ⟨i, hi⟩ := List.mem_iff_getElem?.1 hv
    have hlt := (List.getElem?_eq_some_iff.1 hi).1
    obtain ⟨n, h1, h2⟩ := key i (by omega)
    rw [hi] at h1
    exact ⟨n, Option.some.inj h1, h2⟩
  clear key hx hf hsz hv ht
  refine ⟨cs.map num, by rw [List.length_map, hcs], ?_, fun n hn => ?_⟩
  · congr 2
    rw [List.map_map]
    symm
    rw [List.map_congr_left (g := id) (fun v hv => by
      obtain ⟨n, rfl, _⟩ := hall v hv
      rfl)]
    simp
  · obtain ⟨v, hv, rfl⟩ := List.mem_map.1 hn
    obtain ⟨n, rfl, h2⟩ := hall v hv
    exact h2
/-- A row of numbers that was handed in: nothing, or a place in a block. -/
def RowIn (k : IntKind) (w : World) (v : Value) (l : List Int) : Prop :=
  (v = .slice none 0 0 ∧ l = []) ∨ ∃ b off cap, v = .slice (some ⟨b, off, none⟩) l.length cap ∧ (∀ i, i < l.length → w.cell? ⟨b, off + i, none⟩ = some (.int k (l.getD i 0))) ∧ (∀ n ∈ l, (Lit.int k n).wf = true) ∧ ∃ cells ty fr, w.heap[b]? = some (.cells cells ty fr)
theorem open_row {P : Program} {H : Type} {enc : TypeId × Value → H} {w : World} {base : Nat} {r : Reach} {b0 : Nat} {t e : TypeId} {k : IntKind} {v : Value} {d : DataW H} {p : List MemPlace} (ht : P.underlying t = some (.slice e)) (he : P.underlying e = some (.int k)) (hc : P.cellsOf e = 1)
    (hv : Value.okWide P w r b0 t v) (h : DataW.Trod enc P w base (fun _ => true) true t v d p) : ∃ l, RowIn k w v l := by
  obtain ⟨a, len, cap, rfl⟩ := Go.WideShapes.okWide_slice ht hv
  obtain ⟨fuel, hf⟩ := h
  rcases Go.ChangeShapes.open_ints ht he hc hf with ⟨hcs, _⟩ | ⟨x, l, c, zs, hcs, _, hl, hm, hz, _, hcell, hwz⟩
  · simp [Value.cells] at hcs
    obtain ⟨rfl, rfl, rfl⟩ := hcs
    exact ⟨[], .inl ⟨rfl, rfl⟩⟩
  · simp [Value.cells] at hcs
    obtain ⟨rfl, rfl, rfl⟩ := hcs
    have hhas : x.spot = none ∧ ∃ row n, w.shape? x.block = some (row, n) := by
      simp only [Value.okWide, ht, Cell.okWide, Cell.ok] at hv
      obtain ⟨row, n, h1, _⟩ := hv.2.2.2.2
      exact ⟨hv.2.2.2.1, row, n, h1⟩
    obtain ⟨hspot, row, nn, hshape⟩ := hhas
    have hblk : ∃ cells ty fr, w.heap[x.block]? = some (.cells cells ty fr) := by
      unfold World.shape? at hshape
      split at hshape
      · rename_i cells ty fr h
        exact ⟨_, _, _, h⟩
      · cases hshape
    obtain ⟨b, off, spot⟩ := x
    simp only at hspot
    subst hspot
    have hz' : zs.length = cap := by simpa using hz
    refine ⟨zs.take len, .inr ⟨b, off, cap, by rw [List.length_take, Nat.min_eq_left (by omega)], fun i hi => ?_, fun n hn => hwz n (List.mem_of_mem_take hn), hblk⟩⟩
    rw [List.length_take] at hi
    have h1 := hcell i (by omega)
    rw [Addr.add_mid] at h1
    rw [h1]
    congr 2
    rw [List.getD_eq_getElem?_getD, List.getD_eq_getElem?_getD, List.getElem?_take, if_pos (by omega)]
/-- As open_row; and how long the row is that was read. -/
theorem open_row_sized {P : Program} {H : Type} {enc : TypeId × Value → H} {w : World} {base : Nat} {r : Reach} {b0 : Nat} {t e : TypeId} {k : IntKind} {v : Value} {d : DataW H} {p : List MemPlace} (ht : P.underlying t = some (.slice e)) (he : P.underlying e = some (.int k)) (hc : P.cellsOf e = 1)
    (hv : Value.okWide P w r b0 t v) (h : DataW.Trod enc P w base (fun _ => true) true t v d p) : ∃ l, RowIn k w v l ∧ ((l = []) ∨ ∃ elems spare, d = .slice elems spare ∧ elems.length = l.length) := by
  obtain ⟨l, hl⟩ := open_row ht he hc hv h
  refine ⟨l, hl, ?_⟩
  rcases hl with ⟨_, rfl⟩ | ⟨b, off, cap, rfl, _, _⟩
  · exact .inl rfl
  · obtain ⟨fuel, hf⟩ := h
    rcases Go.ChangeShapes.open_ints ht he hc hf with ⟨hcs, _⟩ | ⟨x, len, c, zs, hcs, _, hl, hm, hz, hx, _, _⟩
    · simp [Value.cells] at hcs
    · simp [Value.cells] at hcs
      obtain ⟨_, rfl, rfl⟩ := hcs
      have hz' : zs.length = cap := by simpa using hz
      simp only [Prod.mk.injEq] at hx
      refine .inr ⟨_, _, hx.1, ?_⟩
      simp [Go.ChangeShapes.lits, hz', hl]
/-- The heap that tells of one such row. -/
theorem HR_row' {k : IntKind} {w : World} {b off : Nat} {l : List Int} {ty : TypeId} (hc : ∀ i, i < l.length → w.cell? ⟨b, off + i, none⟩ = some (.int k (l.getD i 0))) (hblk : ∃ cells ty fr, w.heap[b]? = some (.cells cells ty fr)) : HR (fun j => j < 1) (fun _ => b) ⟨[(0, .view off (.ints k l ty))], 1, []⟩ w := by
  obtain ⟨cells, ty', fr, hb⟩ := hblk
  have hget : ∀ n c, (⟨[(0, .view off (.ints k l ty))], 1, []⟩ : Hp).get n = some c → n = 0 ∧ c = .view off (.ints k l ty) := fun n c h => by
    simp only [Hp.get, lookB] at h
    cases hn : Nat.beq 0 n
    · simp [hn] at h
    · simp only [hn, cond_true, Option.some.injEq] at h
      exact ⟨(beq_nat hn).symm, h.symm⟩
  refine ⟨fun ρ' _ n c hn => ?_, fun n c hn => ?_, fun n m c d hn hm _ => .inl ?_⟩
  · obtain ⟨rfl, rfl⟩ := hget n c hn
    refine ⟨_, hb, cells, ty', fr, rfl, fun j v hv => ?_⟩
    simp only [Blk.rowW, List.getElem?_map] at hv
    cases hj : l[j]? with
    | none => rw [hj] at hv; cases hv
    | some z =>
      rw [hj] at hv
      have hlt := (List.getElem?_eq_some_iff.1 hj).1
      have := hc j hlt
      rw [cell_of hb, List.getD_eq_getElem?_getD, hj] at this
      rw [this]
      exact hv
  · obtain ⟨rfl, _⟩ := hget n c hn
    exact Nat.zero_lt_one
  · rw [(hget n c hn).1, (hget m d hm).1]
theorem HR_row {k : IntKind} {w : World} {b off : Nat} {l : List Int} {ty : TypeId} (hc : ∀ i, i < l.length → w.cell? ⟨b, off + i, none⟩ = some (.int k (l.getD i 0))) (hl : 0 < l.length) : HR (fun j => j < 1) (fun _ => b) ⟨[(0, .view off (.ints k l ty))], 1, []⟩ w := by
  refine HR_row' hc ?_
  have := hc 0 hl
  unfold World.cell? at this
  split at this
  · exact ⟨_, _, _, by assumption⟩
  · simp_all
theorem HR_none {w : World} (ρ : Nat → Nat) (n : Nat) : HR (fun j => j < n) ρ ⟨[], n, []⟩ w := ⟨fun _ _ n b h => by simp [Hp.get, lookB] at h, fun n b h => by simp [Hp.get, lookB] at h, fun n m b c h => by simp [Hp.get, lookB] at h⟩
end Go.Proofs.Ytcpkieahnkfpoaa.Ev
