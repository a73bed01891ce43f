/- Each operation that calls nothing does what the evaluator says (4): all of them. -/
import Derived.Test.YtcpkieahnkfpoaaEvOp3
namespace Go.Proofs.Ytcpkieahnkfpoaa.Ev
open Go Go.RowKit

theorem addN_eq (a b : Nat) : addN a b = a + b := by
  unfold addN
  cases h : Nat.beq a 0
  · rfl
  · have := beq_nat h; simp [this]
theorem mulN_eq (a b : Nat) : mulN a b = a * b := by
  unfold mulN
  cases h : Nat.beq b 1
  · rfl
  · have := beq_nat h; simp [this]

section
variable {E : Env} {S : Nat → Prop} {ρ : Nat → Nat} {tm : List Value} {hp hp1 : Hp} {w : World} {ev : Operand → Value} {v : Value} {pc : List Prop}

theorem map_ren_repL (ρ' : Nat → Nat) {z : List Value} (h : z.all clo = true) : ∀ n, (repL z n).map (ren ρ') = repL z n
  | 0 => rfl
  | n + 1 => by simp only [repL, List.map_append, map_ren_clo ρ' h, map_ren_repL ρ' h n]

theorem zeros_eq (z : List Value) (n : Nat) (h : z ≠ []) : ((Array.range (n * z.length)).map fun i => (⟨z⟩ : Array Value)[i % (⟨z⟩ : Array Value).size]!) = ⟨repL z n⟩ := by
  apply Array.ext_getElem?
  intro i
  by_cases hi : i < n * z.length
  · have e := repL_get z h n i hi
    have hp : 0 < z.length := List.length_pos_iff.2 h
    have hm : i % z.length < z.length := Nat.mod_lt _ hp
    simp only [List.getElem?_toArray, e]
    simp [hi, hm]
  · have e : (repL z n)[i]? = none := List.getElem?_eq_none (by rw [repL_length]; omega)
    simp only [List.getElem?_toArray, e]
    simp [hi]

theorem sound_buildSlice {t e : TypeId} {len : Nat} {parts : Array (Nat × Operand)} {o : Oper} {z cs : List Value} {j : TypeInfo} {ps : List (Nat × Value)} (ho : o.op = .buildSlice t len parts)
    (hu : E.P.underlying t = some (.slice e)) (hz : zcells E e = some z) (hj : E.P.info? e = some j) (hb : bindParts tm parts.toList = some ps) (hzj : z.length = j.size) (hle : len * j.size ≤ 16777216)
    (hf : fillL (fun i => some (i * j.size, j.size)) (repL z len) ps = some cs) (hO : OR S ρ tm ev o.op.operands.toList) (hH : HR S ρ hp w) (hF : NF S hp (hp.add (.cells cs e))) :
    ∃ u w1, Ran ((execOp ev o).run E.P w) u w1 ∧ Res S ρ hp w (.slice (some ⟨hp.next, 0, none⟩) len len) (hp.add (.cells cs e)) u w1 := by
  have hps := OR.parts (S := S) (ρ := ρ) (ev := ev) (fun x hx => hO x (by simpa [ho, Op.operands] using hx)) hb
  obtain ⟨i, zv, hi, hzv, rfl, hc⟩ := zcells_some hz
  rw [hj] at hi
  obtain rfl := Option.some.inj hi
  have e1 : ∀ ρ', Ag S ρ ρ' → Instr.fill (fun i => some (i * j.size, j.size)) ⟨repL (cellsV zv) len⟩ (parts.map fun (p : Nat × Operand) => (p.1, ev p.2)).toList = some ⟨cs.map (ren ρ')⟩ := fun ρ' ha => by
    have := fill_ren ρ' _ ps _ cs hf
    rw [map_ren_repL ρ' hc] at this
    rw [Array.toList_map, hps ρ' ha]
    exact this
  have hzero : ((Array.range (len * j.size)).map fun i => (if len * j.size = 0 then (#[] : Array Value) else zv.cells)[i % (if len * j.size = 0 then (#[] : Array Value) else zv.cells).size]!) = ⟨repL (cellsV zv) len⟩ := by
    by_cases h0 : len * j.size = 0
    · have hl : (repL (cellsV zv) len).length = 0 := by rw [repL_length, hzj, h0]
      have := List.eq_nil_of_length_eq_zero hl
      rw [this, h0]
      simp
    · rw [if_neg h0, cells_eq, ← hzj]
      exact zeros_eq _ _ (fun e => h0 (by rw [e] at hzj; simp at hzj; simp [← hzj]))
  refine ⟨.slice (some ⟨w.heap.size, 0, none⟩) len len, w.alloc (.cells ⟨cs.map (ren ρ)⟩ e), .inl ?_, Res.alloc hH hF (fun ρ' ha => ?_) (fun ρ' _ hn => ?_)⟩
  · have hng : ¬ (len * j.size > 2 ^ 24) := by omega
    have e2 := e1 ρ (Ag.refl _ _)
    by_cases h0 : len * j.size = 0
    · rw [if_pos h0] at hzero
      simp only [execOp, ho, Instr.buildSlice, Sem.run_bind, run_underlying hu, Result.andThen_ok, run_size hj, if_neg hng, Sem.run_pure, if_pos h0, hzero, e2, run_newRow']
    · rw [if_neg h0] at hzero
      simp only [execOp, ho, Instr.buildSlice, Sem.run_bind, run_underlying hu, Result.andThen_ok, run_size hj, if_neg hng, Sem.run_pure, if_neg h0, run_zero hj hzv, hzero, e2, run_newRow']
  · have h1 := e1 ρ (Ag.refl _ _)
    rw [e1 ρ' ha] at h1
    have h2 := Option.some.inj h1
    show _ = _
    rw [h2]
  · simp [ren, renAddr, hn]

theorem sound_makeSlice {t e : TypeId} {x y : Operand} {o : Oper} {i : TypeInfo} {k : IntKind} {kx : IntKind} {n : Int} (ho : o.op = .makeSlice t x y) (hxy : x = y) (hu : E.P.underlying t = some (.slice e)) (hi : E.P.info? e = some i) (hs : i.size = 1)
    (hz : zcells E e = some [.int k 0]) (hx : aval tm x = some (.int kx n)) (h0 : 0 ≤ n) (hb : (i.bytes : Int) * n ≤ 281474976710656) (hm : n ≤ 9223372036854775807)
    (hO : OR S ρ tm ev o.op.operands.toList) (hH : HR S ρ hp w) (hF : NF S hp (hp.add (.ints k (List.replicate n.toNat 0) e))) :
    ∃ u w1, Ran ((execOp ev o).run E.P w) u w1 ∧ Res S ρ hp w (.slice (some ⟨hp.next, 0, none⟩) n.toNat n.toNat) (hp.add (.ints k (List.replicate n.toNat 0) e)) u w1 := by
  subst hxy
  obtain ⟨i', zv, hi', hzv, hzc, hc⟩ := zcells_some hz
  rw [hi] at hi'
  obtain rfl := Option.some.inj hi'
  have hv : ev x = .int kx n := (hO x (by simp [ho, Op.operands]) _ hx).self
  have hrun := run_make (P := E.P) w t e i zv hu hi hzv kx kx n n h0 (Int.le_refl _) hb hm
  refine ⟨.slice (some ⟨w.heap.size, 0, none⟩) n.toNat n.toNat, _, .inl (by simp [execOp, ho, hv, hrun]; rfl), Res.alloc hH hF (fun ρ' _ => ⟨[], ?_⟩) (fun ρ' _ hn => ?_)⟩
  · rw [cells_eq, hzc, hs, Nat.mul_one]
    congr 1
    apply Array.ext_getElem?
    intro j
    unfold madeCells
    by_cases hj : j < n.toNat
    · simp [hj, Nat.mod_one]
    · simp [hj]
  · simp [ren, renAddr, hn]

theorem elemSz_some {t e : TypeId} {sz : Nat} (h : elemSz E t = some (e, sz)) : ∃ i, E.P.underlying t = some (.slice e) ∧ E.P.info? e = some i ∧ i.size = sz := by
  unfold elemSz at h
  split at h
  · rename_i e' hu
    split at h
    · rename_i i hi
      simp only [Option.some.injEq, Prod.mk.injEq] at h
      obtain ⟨rfl, rfl⟩ := h
      exact ⟨i, hu, hi, rfl⟩
    · cases h
  · cases h
theorem fldOff_some {s : TypeId} {f o : Nat} {ft : TypeId} (h : fldOff E s f = some (o, ft)) : ∃ (fs : Array Field) (fd : Field) (i : TypeInfo), E.P.underlying s = some (.struct fs) ∧ fs[f]? = some fd ∧ E.P.info? fd.type = some i ∧ i.size ≠ 0 ∧ o = fd.offset := by
  unfold fldOff at h
  split at h
  · rename_i fs hu
    split at h
    · rename_i fd hf
      split at h
      · rename_i i hi
        split at h
        · cases h
        · rename_i hne
          simp only [Option.some.injEq, Prod.mk.injEq] at h
          exact ⟨fs, fd, i, hu, hf, hi, hne, h.1.symm⟩
      · cases h
    · cases h
  · cases h
theorem intKindOf_some {t : TypeId} {k : IntKind} (h : intKindOf E t = some k) : E.P.underlying t = some (.int k) := by
  unfold intKindOf at h
  split at h
  · rename_i k' hu
    obtain rfl := Option.some.inj h
    exact hu
  · cases h

/-- The whole. -/
theorem aop_sound (hE : EqsOk E) {o : Oper} (h : aop E tm hp o.op = some (v, hp1, pc)) (hpc : ∀ p ∈ pc, p) (hO : OR S ρ tm ev o.op.operands.toList) (hH : HR S ρ hp w) (hF : NF S hp hp1) :
    ∃ u w1, Ran ((execOp ev o).run E.P w) u w1 ∧ Res S ρ hp w v hp1 u w1 := by
  generalize hop : o.op = op at h
  cases op with
  | move x =>
    simp only [aop] at h
    split at h
    · rename_i v' hv
      simp only [Option.some.injEq, Prod.mk.injEq] at h
      obtain ⟨rfl, rfl, rfl⟩ := h
      exact sound_move (.inl hop) hv hO hH
    · cases h
  | assign x =>
    simp only [aop] at h
    split at h
    · rename_i v' hv
      simp only [Option.some.injEq, Prod.mk.injEq] at h
      obtain ⟨rfl, rfl, rfl⟩ := h
      exact sound_move (.inr hop) hv hO hH
    · cases h
  | alloc e =>
    simp only [aop] at h
    split at h
    · rename_i z hz
      simp only [Option.some.injEq, Prod.mk.injEq] at h
      obtain ⟨rfl, rfl, rfl⟩ := h
      exact sound_alloc hop hz hH hF
    · cases h
  | box e x =>
    simp only [aop] at h
    split at h
    · rename_i z hz
      simp only [Option.some.injEq, Prod.mk.injEq] at h
      obtain ⟨rfl, rfl, rfl⟩ := h
      exact sound_box hop hz hO hH hF
    · cases h
  | build t parts =>
    simp only [aop] at h
    split at h
    · rename_i ps hps
      split at h
      · rename_i v' hv
        simp only [Option.some.injEq, Prod.mk.injEq] at h
        obtain ⟨rfl, rfl, rfl⟩ := h
        exact sound_build hop hps hv hO hH
      · cases h
    · cases h
  | buildSlice t len parts =>
    simp only [aop] at h
    split at h
    · rename_i e hu
      split at h
      · rename_i z hz
        split at h
        · rename_i j hj
          split at h
          · rename_i ps hps
            cases hc : (Nat.beq z.length j.size && Nat.ble (len * j.size) 16777216)
            · simp only [hc, cond_false, reduceCtorEq] at h
            · simp only [hc, cond_true] at h
              simp only [Bool.and_eq_true, Nat.ble_eq] at hc
              split at h
              · rename_i cs hcs
                simp only [Option.some.injEq, Prod.mk.injEq] at h
                obtain ⟨rfl, rfl, rfl⟩ := h
                exact sound_buildSlice hop hu hz hj hps (beq_nat hc.1) hc.2 hcs hO hH hF
              · cases h
          · cases h
        · cases h
      · cases h
    · cases h
  | load t x =>
    simp only [aop] at h
    split at h
    · rename_i n off hx
      split at h
      · rename_i b hb
        split at h
        · rename_i sz hs
          split at h
          · rename_i vs pc' hl
            simp only [Option.some.injEq, Prod.mk.injEq] at h
            obtain ⟨rfl, rfl, rfl⟩ := h
            exact sound_load hop hx hb (.inl ⟨sz, vs, hs, hl, rfl⟩) hO hH hpc
          · cases h
        · rename_i sz hs
          split at h
          · rename_i v' pc' hl
            simp only [Option.some.injEq, Prod.mk.injEq] at h
            obtain ⟨rfl, rfl, rfl⟩ := h
            exact sound_load hop hx hb (.inr ⟨sz, hs, hl⟩) hO hH hpc
          · cases h
        · cases h
      · cases h
    · cases h
  | store t x y =>
    simp only [aop] at h
    split at h
    · rename_i n off vy hx hy
      split at h
      · rename_i b hb
        split at h
        · rename_i ag sz hs
          cases hc : Nat.beq (cellsV vy).length sz
          · simp only [hc, cond_false, reduceCtorEq] at h
          · simp only [hc, cond_true] at h
            split at h
            · rename_i b' pc' hl
              simp only [Option.some.injEq, Prod.mk.injEq] at h
              obtain ⟨rfl, rfl, rfl⟩ := h
              exact sound_store hop hx hy hb hs (beq_nat hc) hl hO hH hpc
            · cases h
        · cases h
      · cases h
    · cases h
  | nilCheck x =>
    simp only [aop] at h
    split at h
    · rename_i a hx
      simp only [Option.some.injEq, Prod.mk.injEq] at h
      obtain ⟨rfl, rfl, rfl⟩ := h
      have hv := hO x (by simp [hop, Op.operands]) _ hx
      have e : ev x = .pointer (some (renAddr ρ a)) := hv.self
      exact sound_pure (u := ev x) (by simp [execOp, hop, e]) hv hH
    · rename_i f fa fb hx
      simp only [Option.some.injEq, Prod.mk.injEq] at h
      obtain ⟨rfl, rfl, rfl⟩ := h
      have hv := hO x (by simp [hop, Op.operands]) _ hx
      have e : ev x = .func (.func f) (renA ρ fa) (renA ρ fb) := hv.self
      exact sound_pure (u := ev x) (by simp [execOp, hop, e]) hv hH
    · cases h
  | binOp op t x y yt =>
    simp only [aop] at h
    split at h
    · rename_i a b ha hb
      split at h
      · rename_i v' pc' hv
        simp only [Option.some.injEq, Prod.mk.injEq] at h
        obtain ⟨rfl, rfl, rfl⟩ := h
        obtain ⟨q1, q2, q3⟩ := run_abin hE hv hpc (hO x (by simp [hop, Op.operands]) _ ha) (hO y (by simp [hop, Op.operands]) _ hb) x y w
        exact sound_pure (by simp [execOp, hop, q1, q2]) (VR.clo q3) hH
      · cases h
    · cases h
  | unOp op t x =>
    simp only [aop] at h
    split at h
    · rename_i b hx
      simp only [Option.some.injEq, Prod.mk.injEq] at h
      obtain ⟨rfl, rfl, rfl⟩ := h
      have e : ev x = .bool b := (hO x (by simp [hop, Op.operands]) _ hx).self
      exact sound_pure (by simp [execOp, hop, e, Op.unary]) (VR.clo rfl) hH
    · rename_i k n hx
      simp only [Option.some.injEq, Prod.mk.injEq] at h
      obtain ⟨rfl, rfl, rfl⟩ := h
      have e : ev x = .int k n := (hO x (by simp [hop, Op.operands]) _ hx).self
      exact sound_pure (by simp [execOp, hop, e, Op.unary, Op.intArith]) (VR.clo rfl) hH
    · cases h
  | convert src dst x =>
    simp only [aop] at h
    split at h
    · rename_i d k k' n hsrc hk hx
      simp only [Option.some.injEq, Prod.mk.injEq] at h
      obtain ⟨rfl, rfl, rfl⟩ := h
      have e : ev x = .int k' n := (hO x (by simp [hop, Op.operands]) _ hx).self
      have hu := intKindOf_some hk
      exact sound_pure (u := .int k (k.wrap n)) (by simp [execOp, hop, e, convert, run_underlying hu, run_underlying hsrc, Conv.intToInt]) (VR.clo rfl) hH
    · cases h
  | makeFunc fn first cap =>
    simp only [aop] at h
    split at h
    · rename_i a b ha hb
      simp only [Option.some.injEq, Prod.mk.injEq] at h
      obtain ⟨rfl, rfl, rfl⟩ := h
      have h1 := OR.avals (S := S) (ρ := ρ) (ev := ev) (fun x hx => hO x (by simp only [hop, Op.operands, Array.toList_append, List.mem_append]; exact .inl hx)) ha
      have h2 := OR.avals (S := S) (ρ := ρ) (ev := ev) (fun x hx => hO x (by simp only [hop, Op.operands, Array.toList_append, List.mem_append]; exact .inr hx)) hb
      refine sound_pure (u := .func fn (first.map ev) (cap.map ev)) (by simp [execOp, hop, Instr.makeFunc]) (fun ρ' ha' => ?_) hH
      rw [ren_func, ← h1 ρ' ha', ← h2 ρ' ha']
      congr 1
      · exact Array.toList_inj.1 (by simp)
      · exact Array.toList_inj.1 (by simp)
    · cases h
  | makeSlice t x y =>
    cases x with
    | tmp l =>
      cases y with
      | tmp c =>
        simp only [aop] at h
        cases hc : Nat.beq l c
        · simp only [hc, cond_false, reduceCtorEq] at h
        · simp only [hc, cond_true] at h
          obtain rfl := beq_nat hc
          split at h
          · rename_i e kx n hs hx
            obtain ⟨i, hu, hi, hsz⟩ := elemSz_some hs
            split at h
            · rename_i k k' j hk hz hj
              split at h
              · rename_i hkk
                subst hkk
                rw [hi] at hj
                obtain rfl := Option.some.inj hj
                simp only [Option.some.injEq, Prod.mk.injEq] at h
                obtain ⟨rfl, rfl, rfl⟩ := h
                exact sound_makeSlice hop rfl hu hi hsz hz hx (hpc _ (by simp)) (hpc _ (by simp)) (hpc _ (by simp)) hO hH hF
              · cases h
            · cases h
          · cases h
      | _ => simp [aop] at h
    | _ => simp [aop] at h
  | fieldAddr s x f =>
    simp only [aop] at h
    split at h
    · rename_i o' ft n off hf hx
      simp only [Option.some.injEq, Prod.mk.injEq] at h
      obtain ⟨rfl, rfl, rfl⟩ := h
      obtain ⟨fs, fd, i, hu, hfd, hi, hne, rfl⟩ := fldOff_some hf
      have hv := hO x (by simp [hop, Op.operands]) _ hx
      have e : ev x = .pointer (some ⟨ρ n, off, none⟩) := hv.self
      have hr : ∀ ρ', Ag S ρ ρ' → ρ' n = ρ n := fun ρ' ha => by
        have := hv ρ' ha
        rw [e, ren_ptr] at this
        injection this with q
        injection q with q
        injection q with q
        exact q.symm
      refine sound_pure (u := .pointer (some ⟨ρ n, off + fd.offset, none⟩)) ?_ (fun ρ' ha => by rw [ren_ptr, hr ρ' ha]) hH
      simp [execOp, hop, e, Instr.fieldAt, run_underlying hu, hfd, Instr.sureAddr, fieldPlace, run_size hi, hne, Addr.add_mid]
    · cases h
  | field s x f =>
    simp only [aop] at h
    split at h
    · rename_i fs hu
      split at h
      · rename_i fd cs hfd hx
        split at h
        · rename_i v' hv'
          simp only [Option.some.injEq, Prod.mk.injEq] at h
          obtain ⟨rfl, rfl, rfl⟩ := h
          have hv := hO x (by simp [hop, Op.operands]) _ hx
          have e : ev x = .agg ⟨cs.map (ren ρ)⟩ := by rw [hv.self, ren_agg]
          refine sound_pure (u := ren ρ v') ?_ (fun ρ' ha => ?_) hH
          · simp [execOp, hop, e, Instr.field, run_underlying hu, hfd, asAgg, part_ren hv' ρ]
          · have h1 := hv ρ' ha
            rw [e, ren_agg] at h1
            injection h1 with h1
            have q1 := part_ren hv' ρ w
            rw [h1, part_ren hv' ρ' w] at q1
            injection q1 with q1 _
            exact q1.symm
        · cases h
      · cases h
    · cases h
  | indexAddr t x ix =>
    simp only [aop] at h
    split at h
    · rename_i a len cap kx i hx hix
      split at h
      · rename_i et sz hs
        simp only [Option.some.injEq, Prod.mk.injEq] at h
        obtain ⟨rfl, rfl, rfl⟩ := h
        obtain ⟨inf, hu, hi, rfl⟩ := elemSz_some hs
        have hv := hO x (by simp [hop, Op.operands]) _ hx
        have hi' : ev ix = .int kx i := (hO ix (by simp [hop, Op.operands]) _ hix).self
        have b0 : 0 ≤ i := hpc _ (by simp)
        have b1 : i < (len : Int) := hpc _ (by simp)
        obtain ⟨c, e⟩ : ∃ c, ev x = .slice (some (renAddr ρ a)) len c := ⟨_, hv.self⟩
        have hr : ∀ ρ', Ag S ρ ρ' → ρ' a.block = ρ a.block := fun ρ' ha => by
          have := hv ρ' ha
          rw [e] at this
          simp only [ren] at this
          injection this with q _ _
          injection q with q
          injection q with q _ _
          exact q.symm
        refine sound_pure (u := .pointer (some ⟨ρ a.block, a.off + i.toNat * inf.size, none⟩)) ?_ (fun ρ' ha => by rw [ren_ptr, hr ρ' ha, addN_eq, mulN_eq]) hH
        simp [execOp, hop, e, hi', Instr.indexAt, asIntOf, run_underlying hu, b0, b1, run_size hi, renAddr, Addr.add_mid]
      · cases h
    · rename_i n off kx i hx hix
      split at h
      · rename_i len et hu
        split at h
        · rename_i ag sz hs
          simp only [Option.some.injEq, Prod.mk.injEq] at h
          obtain ⟨rfl, rfl, rfl⟩ := h
          obtain ⟨inf, hi, rfl, _⟩ := shp_some hs
          have hv := hO x (by simp [hop, Op.operands]) _ hx
          have hi' : ev ix = .int kx i := (hO ix (by simp [hop, Op.operands]) _ hix).self
          have b0 : 0 ≤ i := hpc _ (by simp)
          have b1 : i < (len : Int) := hpc _ (by simp)
          have e : ev x = .pointer (some ⟨ρ n, off, none⟩) := hv.self
          have hr : ∀ ρ', Ag S ρ ρ' → ρ' n = ρ n := fun ρ' ha => by
            have := hv ρ' ha
            rw [e] at this
            simp only [ren] at this
            injection this with q
            injection q with q
            injection q with q _ _
            exact q.symm
          refine sound_pure (u := .pointer (some ⟨ρ n, off + i.toNat * inf.size, none⟩)) ?_ (fun ρ' ha => by rw [ren_ptr, hr ρ' ha, addN_eq, mulN_eq]) hH
          simp [execOp, hop, e, hi', Instr.indexAt, asIntOf, run_underlying hu, b0, b1, run_size hi, Addr.add_mid, Instr.sureAddr]
        · cases h
      · cases h
    · cases h
  | index t x ix =>
    simp only [aop] at h
    split at h
    · rename_i cs kx i hx hix
      split at h
      · rename_i len e' hu
        split at h
        · rename_i ag sz hs
          split at h
          · rename_i v' hv'
            simp only [Option.some.injEq, Prod.mk.injEq] at h
            obtain ⟨rfl, rfl, rfl⟩ := h
            obtain ⟨inf, hi, rfl, _⟩ := shp_some hs
            have hv := hO x (by simp [hop, Op.operands]) _ hx
            have hi' : ev ix = .int kx i := (hO ix (by simp [hop, Op.operands]) _ hix).self
            have e : ev x = .agg ⟨cs.map (ren ρ)⟩ := by rw [hv.self, ren_agg]
            have b0 : 0 ≤ i := hpc _ (by simp)
            have b1 : i < (len : Int) := hpc _ (by simp)
            refine sound_pure (u := ren ρ v') ?_ (fun ρ' ha => ?_) hH
            · simp [execOp, hop, e, hi', Instr.index, asIntOf, run_underlying hu, b0, b1, run_size hi, part_ren hv' ρ]
            · have h1 := hv ρ' ha
              rw [e, ren_agg] at h1
              injection h1 with h1
              have q1 := part_ren hv' ρ w
              rw [h1, part_ren hv' ρ' w] at q1
              injection q1 with q1 _
              exact q1.symm
          · cases h
        · cases h
      · cases h
    · cases h
  | extract x ix =>
    simp only [aop] at h
    split at h
    · rename_i vs hx
      split at h
      · rename_i v' hv'
        simp only [Option.some.injEq, Prod.mk.injEq] at h
        obtain ⟨rfl, rfl, rfl⟩ := h
        have hv := hO x (by simp [hop, Op.operands]) _ hx
        have e : ∀ ρ', Ag S ρ ρ' → ev x = .tuple ⟨vs.map (ren ρ')⟩ := fun ρ' ha => by rw [hv ρ' ha, ren_tuple]
        refine sound_pure (u := ren ρ v') ?_ (fun ρ' ha => ?_) hH
        · simp [execOp, hop, e ρ (Ag.refl _ _), Instr.extract, hv']
        · have h1 := e ρ' ha
          rw [e ρ (Ag.refl _ _)] at h1
          injection h1 with h1
          injection h1 with h1
          have q : (vs.map (ren ρ))[ix]? = (vs.map (ren ρ'))[ix]? := by rw [h1]
          simp only [List.getElem?_map, hv', Option.map_some, Option.some.injEq] at q
          exact q
      · cases h
    · cases h
  | _ => simp [aop] at h
end
end Go.Proofs.Ytcpkieahnkfpoaa.Ev
