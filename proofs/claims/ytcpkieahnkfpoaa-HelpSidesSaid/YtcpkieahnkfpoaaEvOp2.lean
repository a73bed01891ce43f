/- Each operation that calls nothing does what the evaluator says (2). -/
import Derived.Test.YtcpkieahnkfpoaaEvOp
namespace Go.Proofs.Ytcpkieahnkfpoaa.Ev
open Go Go.RowKit

/-- An operation's run has come to a value. -/
def Ran (r : Result Next) (u : Value) (w1 : World) : Prop := r = .ok (.value u) w1 ∨ (r = .ok .skip w1 ∧ u = undef)
theorem Ran.wp {P : Program} {o : Oper} {a : Act} {w w1 : World} {u : Value} {K : Act → World → Prop} {Q : Exit → Act → World → Prop}
    (h : Ran ((execOp a.eval o).run P w) u w1) (hK : K (a.put o.dst u) w1) : o.wp P a w K Q := by
  unfold Oper.wp
  rcases h with h | ⟨h, rfl⟩ <;> rw [h] <;> exact hK

/-- Structs of numbers and bools are compared cell by cell. -/
def EqsOk (E : Env) : Prop := ∀ t ks, E.eqs t = some ks → ∀ xs ys bs, eqC ks xs ys = some bs → ∀ (x y : Operand) (w : World),
  (eqGuard .eql t x y (.agg ⟨xs⟩) (.agg ⟨ys⟩)).run E.P w = .ok () w ∧ (eqGuard .neq t x y (.agg ⟨xs⟩) (.agg ⟨ys⟩)).run E.P w = .ok () w ∧
  (binOp .eql t (.agg ⟨xs⟩) (.agg ⟨ys⟩)).run E.P w = .ok (.bool (andL bs)) w ∧ (binOp .neq t (.agg ⟨xs⟩) (.agg ⟨ys⟩)).run E.P w = .ok (.bool (!(andL bs))) w

theorem eqC_ren (ρ : Nat → Nat) : ∀ (ks : List CK) (xs ys : List Value) (bs : List Bool), eqC ks xs ys = some bs → xs.map (ren ρ) = xs ∧ ys.map (ren ρ) = ys
  | [], [], [], _, _ => ⟨rfl, rfl⟩
  | [], [], _ :: _, _, h => by simp [eqC] at h
  | [], _ :: _, _, _, h => by simp [eqC] at h
  | c :: ks, [], _, _, h => by cases c <;> simp [eqC] at h
  | c :: ks, x :: xs, [], _, h => by cases c <;> cases x <;> simp [eqC] at h
  | .i k :: ks, x :: xs, y :: ys, bs, h => by
    cases x <;> cases y <;> simp only [eqC, reduceCtorEq] at h
    rename_i k1 x k2 y
    split at h
    · split at h
      · cases hr : eqC ks xs ys with
        | none => simp [hr] at h
        | some b => obtain ⟨h1, h2⟩ := eqC_ren ρ ks xs ys b hr; simp [ren, h1, h2]
      · cases h
    · cases h
  | .b :: ks, x :: xs, y :: ys, bs, h => by
    cases x <;> cases y <;> simp only [eqC, reduceCtorEq] at h
    cases hr : eqC ks xs ys with
    | none => simp [hr] at h
    | some b => obtain ⟨h1, h2⟩ := eqC_ren ρ ks xs ys b hr; simp [ren, h1, h2]

section
variable {E : Env} {S : Nat → Prop} {ρ : Nat → Nat} {tm : List Value} {hp hp1 : Hp} {w : World} {ev : Operand → Value} {v : Value} {pc : List Prop}

theorem zcells_some {e : TypeId} {z : List Value} (h : zcells E e = some z) : ∃ i zv, E.P.info? e = some i ∧ i.zero = some zv ∧ cellsV zv = z ∧ z.all clo = true := by
  unfold zcells at h
  split at h
  · rename_i i hi
    split at h
    · rename_i zv hz
      split at h
      · rename_i hc
        obtain rfl := Option.some.inj h
        exact ⟨i, zv, hi, hz, rfl, hc⟩
      · cases h
    · cases h
  · cases h
theorem run_zero {e : TypeId} {i : TypeInfo} {zv : Value} (hi : E.P.info? e = some i) (hz : i.zero = some zv) (w : World) : (zeroValue e).run E.P w = .ok zv w := by
  simp [zeroValue, typeInfo, hi, hz]
theorem run_size {e : TypeId} {i : TypeInfo} (hi : E.P.info? e = some i) (w : World) : (sizeOf e).run E.P w = .ok i.size w := by
  simp [sizeOf, typeInfo, hi]
theorem run_newRow' (P : Program) (e : TypeId) (cs : Array Value) (w : World) : (newRow e cs).run P w = .ok ⟨w.heap.size, 0, none⟩ (w.alloc (.cells cs e)) := by
  simp [newRow]
theorem shp_some {t : TypeId} {ag : Bool} {sz : Nat} (h : shp E t = some (ag, sz)) : ∃ i, E.P.info? t = some i ∧ i.size = sz ∧ ∀ w, (isAgg t).run E.P w = .ok ag w := by
  unfold shp at h
  split at h
  · rename_i i hi
    refine ⟨i, hi, ?_⟩
    split at h
    · rename_i fs hu
      simp only [Option.some.injEq, Prod.mk.injEq] at h
      exact ⟨h.2, fun w => by rw [← h.1]; simp [isAgg, run_underlying hu]⟩
    · rename_i n e hu
      simp only [Option.some.injEq, Prod.mk.injEq] at h
      exact ⟨h.2, fun w => by rw [← h.1]; simp [isAgg, run_underlying hu]⟩
    · rename_i d hn1 hn2 hu
      simp only [Option.some.injEq, Prod.mk.injEq] at h
      refine ⟨h.2, fun w => ?_⟩
      rw [← h.1]
      cases d <;> simp_all [isAgg, run_underlying hu]
    · cases h
  · cases h

theorem cellsVRL {v u : Value} (h : VR S ρ v u) : VRL S ρ (cellsV v) (cellsV u) := fun ρ' ha => by rw [h ρ' ha, cellsV_ren]

/-- What operands say. -/
def OR (S : Nat → Prop) (ρ : Nat → Nat) (tm : List Value) (ev : Operand → Value) (l : List Operand) : Prop := ∀ x ∈ l, ∀ v, aval tm x = some v → VR S ρ v (ev x)

theorem OR.avals {l : List Operand} : ∀ {vs : List Value}, OR S ρ tm ev l → avals tm l = some vs → VRL S ρ vs (l.map ev) := by
  induction l with
  | nil => intro vs _ h; simp only [Ev.avals, Option.some.injEq] at h; subst h; exact fun _ _ => rfl
  | cons x xs ih =>
    intro vs hO h
    simp only [Ev.avals] at h
    split at h
    · rename_i v hv
      split at h
      · rename_i vs' hvs
        obtain rfl := Option.some.inj h
        have h1 := hO x (by simp) v hv
        have h2 := ih (fun y hy => hO y (by simp [hy])) hvs
        exact fun ρ' ha => by rw [List.map_cons, List.map_cons, h1 ρ' ha, h2 ρ' ha]
      · cases h
    · cases h

theorem sound_move {x : Operand} {o : Oper} (ho : o.op = .move x ∨ o.op = .assign x) (h : aval tm x = some v) (hO : OR S ρ tm ev o.op.operands.toList) (hH : HR S ρ hp w) :
    ∃ u w1, Ran ((execOp ev o).run E.P w) u w1 ∧ Res S ρ hp w v hp u w1 := by
  have hv : VR S ρ v (ev x) := hO x (by rcases ho with e | e <;> simp [e, Op.operands]) v h
  refine ⟨ev x, w, .inl ?_, Res.same hH hv⟩
  rcases ho with e | e <;> simp [execOp, e]

theorem sound_alloc {e : TypeId} {o : Oper} {z : List Value} (ho : o.op = .alloc e) (h : zcells E e = some z) (hH : HR S ρ hp w) (hF : NF S hp (hp.add (.cells z e))) :
    ∃ u w1, Ran ((execOp ev o).run E.P w) u w1 ∧ Res S ρ hp w (.pointer (some ⟨hp.next, 0, none⟩)) (hp.add (.cells z e)) u w1 := by
  obtain ⟨i, zv, hi, hz, rfl, hc⟩ := zcells_some h
  refine ⟨.pointer (some ⟨w.heap.size, 0, none⟩), w.alloc (.cells zv.cells e), .inl ?_, Res.alloc hH hF (fun ρ' _ => ?_) (fun ρ' _ hn => ?_)⟩
  · simp [execOp, ho, Instr.alloc, run_zero hi hz, newVar, run_newRow']
  · show _ = _
    rw [map_ren_clo ρ' hc, cells_eq]
  · rw [ren_ptr, hn]

theorem sound_box {e : TypeId} {x : Operand} {o : Oper} (ho : o.op = .box e x) (h : aval tm x = some v) (hO : OR S ρ tm ev o.op.operands.toList) (hH : HR S ρ hp w) (hF : NF S hp (hp.add (.cells (cellsV v) e))) :
    ∃ u w1, Ran ((execOp ev o).run E.P w) u w1 ∧ Res S ρ hp w (.pointer (some ⟨hp.next, 0, none⟩)) (hp.add (.cells (cellsV v) e)) u w1 := by
  have hv : VR S ρ v (ev x) := hO x (by simp [ho, Op.operands]) v h
  refine ⟨.pointer (some ⟨w.heap.size, 0, none⟩), w.alloc (.cells (ev x).cells e), .inl ?_, Res.alloc hH hF (fun ρ' ha => ?_) (fun ρ' _ hn => ?_)⟩
  · simp [execOp, ho, Instr.box, newVar, run_newRow']
  · show _ = _
    rw [cells_eq, hv ρ' ha, cellsV_ren]
  · rw [ren_ptr, hn]

theorem HR.block {n : Nat} {b : Blk} (hH : HR S ρ hp w) (hg : hp.get n = some b) : ∃ o, w.heap[ρ n]? = some o ∧ ∀ ρ', Ag S ρ ρ' → b.sat ρ' o := by
  obtain ⟨o, ho, _⟩ := hH.sat ρ (Ag.refl _ _) n b hg
  refine ⟨o, ho, fun ρ' ha => ?_⟩
  obtain ⟨o', ho', hs⟩ := hH.sat ρ' ha n b hg
  rw [ho] at ho'
  obtain rfl := Option.some.inj ho'
  exact hs

theorem cell_of {w : World} {g : Nat} {cells : Array Value} {ty : TypeId} {fr : Nat × Nat} (h : w.heap[g]? = some (.cells cells ty fr)) (j : Nat) : w.cell? ⟨g, j, none⟩ = cells[j]? := by
  simp [World.cell?, h]

theorem load_cells {b : Blk} {n off k : Nat} {vs : List Value} (hH : HR S ρ hp w) (hg : hp.get n = some b) (hl : b.load off k = some (vs, pc)) (hpc : ∀ p ∈ pc, p) :
    vs.length = k ∧ ∀ ρ', Ag S ρ ρ' → vs.map (ren ρ') = vs.map (ren ρ) ∧ (loadCells ⟨ρ n, off, none⟩ k).run E.P w = .ok ⟨vs.map (ren ρ)⟩ w := by
  obtain ⟨o, ho, hs⟩ := hH.block hg
  obtain ⟨hk, cells, ty, fr, rfl, hc⟩ := Blk.load_sound hl hpc (hs ρ (Ag.refl _ _))
  refine ⟨hk, fun ρ' ha => ⟨?_, ?_⟩⟩
  · obtain ⟨_, cells', ty', fr', e, hc'⟩ := Blk.load_sound hl hpc (hs ρ' ha)
    injection e with e1 e2 _
    subst e1
    apply List.ext_getElem?
    intro j
    by_cases hj : j < vs.length
    · have h1 := hc j (ren ρ vs[j]) (by simp [hj])
      have h2 := hc' j (ren ρ' vs[j]) (by simp [hj])
      rw [h1] at h2
      simp [hj, Option.some.inj h2]
    · simp [List.getElem?_eq_none (Nat.le_of_not_lt hj)]
  · have := run_loadCells_list (P := E.P) w ⟨ρ n, off, none⟩ (vs.map (ren ρ)) (fun j v hv => by
      rw [Addr.add_mid, cell_of ho]; exact hc j v hv)
    rw [List.length_map, hk] at this
    exact this

theorem sound_loadVar {t : TypeId} {n off : Nat} {b : Blk} (hH : HR S ρ hp w) (hg : hp.get n = some b) (hpc : ∀ p ∈ pc, p)
    (h : (∃ sz vs, shp E t = some (true, sz) ∧ b.load off sz = some (vs, pc) ∧ v = .agg ⟨vs⟩) ∨ (∃ sz, shp E t = some (false, sz) ∧ b.load off 1 = some ([v], pc))) :
    ∃ u, (loadVar t ⟨ρ n, off, none⟩).run E.P w = .ok u w ∧ VR S ρ v u := by
  rcases h with ⟨sz, vs, hs, hl, rfl⟩ | ⟨sz, hs, hl⟩
  · obtain ⟨i, hi, rfl, hag⟩ := shp_some hs
    obtain ⟨_, hc⟩ := load_cells (E := E) hH hg hl hpc
    refine ⟨.agg ⟨vs.map (ren ρ)⟩, ?_, fun ρ' ha => ?_⟩
    · simp [loadVar, hag, run_size hi, (hc ρ (Ag.refl _ _)).2]
    · rw [ren_agg, (hc ρ' ha).1]
  · obtain ⟨i, hi, rfl, hag⟩ := shp_some hs
    obtain ⟨o, ho, hsat⟩ := hH.block hg
    have key : ∀ ρ', Ag S ρ ρ' → w.cell? ⟨ρ n, off, none⟩ = some (ren ρ' v) := fun ρ' ha => by
      obtain ⟨_, cells, ty, fr, rfl, hc⟩ := Blk.load_sound hl hpc (hsat ρ' ha)
      rw [cell_of ho]
      exact hc 0 (ren ρ' v) rfl
    refine ⟨ren ρ v, ?_, fun ρ' ha => ?_⟩
    · simp [loadVar, hag, key ρ (Ag.refl _ _)]
    · have h1 := key ρ' ha
      rw [key ρ (Ag.refl _ _)] at h1
      exact Option.some.inj h1

theorem sound_load {t : TypeId} {x : Operand} {o : Oper} {n off : Nat} {b : Blk} (ho : o.op = .load t x) (hx : aval tm x = some (.pointer (some ⟨n, off, none⟩))) (hg : hp.get n = some b)
    (h : (∃ sz vs, shp E t = some (true, sz) ∧ b.load off sz = some (vs, pc) ∧ v = .agg ⟨vs⟩) ∨ (∃ sz, shp E t = some (false, sz) ∧ b.load off 1 = some ([v], pc)))
    (hO : OR S ρ tm ev o.op.operands.toList) (hH : HR S ρ hp w) (hpc : ∀ p ∈ pc, p) : ∃ u w1, Ran ((execOp ev o).run E.P w) u w1 ∧ Res S ρ hp w v hp u w1 := by
  have hv : ev x = .pointer (some ⟨ρ n, off, none⟩) := (hO x (by simp [ho, Op.operands]) _ hx).self
  obtain ⟨u, hr, hu⟩ := sound_loadVar hH hg hpc h
  exact ⟨u, w, .inl (by simp [execOp, ho, Instr.loadAt, hv, Instr.sureAddr, hr]), Res.same hH hu⟩

theorem sound_store {t : TypeId} {x y : Operand} {o : Oper} {n off sz : Nat} {ag : Bool} {b b' : Blk} {vy : Value} (ho : o.op = .store t x y) (hx : aval tm x = some (.pointer (some ⟨n, off, none⟩))) (hy : aval tm y = some vy)
    (hg : hp.get n = some b) (hs : shp E t = some (ag, sz)) (hsz : (cellsV vy).length = sz) (hl : b.store off (cellsV vy) = some (b', pc))
    (hO : OR S ρ tm ev o.op.operands.toList) (hH : HR S ρ hp w) (hpc : ∀ p ∈ pc, p) : ∃ u w1, Ran ((execOp ev o).run E.P w) u w1 ∧ Res S ρ hp w undef (hp.set n b') u w1 := by
  have hv : ev x = .pointer (some ⟨ρ n, off, none⟩) := (hO x (by simp [ho, Op.operands]) _ hx).self
  have hvy : VR S ρ vy (ev y) := hO y (by simp [ho, Op.operands]) _ hy
  obtain ⟨i, hi, rfl, _⟩ := shp_some hs
  obtain ⟨ob, hob, hsat⟩ := hH.block hg
  obtain ⟨cells, ty, rfl, hfit, h1, hb'⟩ := Blk.store_sound hl hpc hsat (cellsVRL hvy)
  have hlen : (cellsV (ev y)).length = i.size := by rw [hvy.self, cellsV_ren, List.length_map, hsz]
  have hrun := run_storeCells_at (P := E.P) (ρ n) off ty (cellsV (ev y)) 0 cells w hob (by simpa using hfit) h1
  refine ⟨undef, w.setRow (ρ n) (List.take (off + 0) cells.toList ++ cellsV (ev y) ++ List.drop (off + 0 + (cellsV (ev y)).length) cells.toList).toArray, .inr ⟨?_, rfl⟩, Res.set (w1 := w.setRow (ρ n) (List.take (off + 0) cells.toList ++ cellsV (ev y) ++ List.drop (off + 0 + (cellsV (ev y)).length) cells.toList).toArray) (Blk.store_isV hl).1 (Blk.store_isV hl).2 hH hg rfl rfl rfl (setRow_size _ _ _) (setRow_heap w (ρ n) cells _ ty (0, 0) hob) (fun k hk => setRow_other w (ρ n) k _ hk) (fun ρ' ha => ?_) (fun _ _ => rfl)⟩
  · simp [execOp, ho, Instr.storeAt, hv, Instr.sureAddr, storeVar, run_size hi, cells_eq, hlen, hrun]
  · simpa using hb' ρ' ha

theorem sound_pure {o : Oper} {u : Value} (hr : (execOp ev o).run E.P w = .ok (.value u) w) (hu : VR S ρ v u) (hH : HR S ρ hp w) :
    ∃ u w1, Ran ((execOp ev o).run E.P w) u w1 ∧ Res S ρ hp w v hp u w1 := ⟨u, w, .inl hr, Res.same hH hu⟩
theorem VR.clo {v : Value} (h : clo v = true) : VR S ρ v v := fun ρ' _ => (ren_clo ρ' h).symm
end
end Go.Proofs.Ytcpkieahnkfpoaa.Ev
