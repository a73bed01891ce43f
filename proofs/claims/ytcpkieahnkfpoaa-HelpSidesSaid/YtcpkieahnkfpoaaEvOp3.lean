/- Each operation that calls nothing does what the evaluator says (3): numbers, structs, slices. -/
import Derived.Test.YtcpkieahnkfpoaaEvOp2
namespace Go.Proofs.Ytcpkieahnkfpoaa.Ev
open Go Go.RowKit

theorem run_ibin {op : BinOp} {k : IntKind} {a b : Int} {v : Value} {pc : List Prop} (h : ibin op k a b = some (v, pc)) (hpc : ∀ p ∈ pc, p) (P : Program) (t : TypeId) (w : World) :
    (binOp op t (.int k a) (.int k b)).run P w = .ok v w ∧ clo v = true := by
  cases op <;> simp only [ibin, Option.some.injEq, Prod.mk.injEq, reduceCtorEq] at h <;> obtain ⟨rfl, rfl⟩ := h
  case quo =>
    have hb : b ≠ 0 := hpc _ (by simp)
    exact ⟨by simp [binOp, Op.intDiv, hb], rfl⟩
  case rem =>
    have hb : b ≠ 0 := hpc _ (by simp)
    exact ⟨by simp [binOp, Op.intDiv, hb], rfl⟩
  all_goals exact ⟨by simp [binOp, Op.intArith, Op.intBits, Op.intCmp], rfl⟩
theorem run_ishift {op : BinOp} {k k' : IntKind} {a b : Int} {v : Value} {pc : List Prop} (h : ishift op k a b = some (v, pc)) (hpc : ∀ p ∈ pc, p) (P : Program) (t : TypeId) (w : World) :
    (binOp op t (.int k a) (.int k' b)).run P w = .ok v w ∧ clo v = true := by
  cases op <;> simp only [ishift, Option.some.injEq, Prod.mk.injEq, reduceCtorEq] at h <;> obtain ⟨rfl, rfl⟩ := h
  all_goals
    have hb : ¬ b < 0 := by have : 0 ≤ b := hpc _ (by simp); omega
    exact ⟨by simp [binOp, Op.shift, hb], rfl⟩
theorem eqGuard_plain (P : Program) (op : BinOp) (t : TypeId) (x y : Operand) (a b : Value) (w : World) (h : (∀ c d, a = .agg c → b = .agg d → False) ∧ (a = .nilIface → b = .nilIface → False)) :
    (eqGuard op t x y a b).run P w = .ok () w := by
  obtain ⟨h1, h2⟩ := h
  cases op <;> simp [eqGuard] <;> (split <;> simp_all)

theorem equalIn_ptr {P : Program} {t e : TypeId} (hu : P.underlying t = some (.pointer e)) (d : Nat) (a : Option Addr) (w : World) : (Op.equalIn (d + 1) t (.pointer a) (.pointer none)).run P w = .ok a.isNone w := by
  cases a <;> simp [Op.equalIn, run_underlying hu]
theorem equalIn_nf {P : Program} {t : TypeId} {q1 q2 : Array TypeId} {q3 : Bool} (hu : P.underlying t = some (.func q1 q2 q3)) (d : Nat) (w : World) : (Op.equalIn (d + 1) t .nilFunc .nilFunc).run P w = .ok true w := by
  simp [Op.equalIn, run_underlying hu]
theorem equalIn_fn {P : Program} {t : TypeId} {q1 q2 : Array TypeId} {q3 : Bool} (hu : P.underlying t = some (.func q1 q2 q3)) (d : Nat) (fn : Fn) (a b : Array Value) (w : World) : (Op.equalIn (d + 1) t (.func fn a b) .nilFunc).run P w = .ok false w := by
  simp [Op.equalIn, run_underlying hu]
theorem equal_ptr {P : Program} {t e : TypeId} (hu : P.underlying t = some (.pointer e)) (a : Option Addr) (w : World) : (Op.equal t (.pointer a) (.pointer none)).run P w = .ok a.isNone w := equalIn_ptr hu 9999 a w
theorem equal_nf {P : Program} {t : TypeId} {q1 q2 : Array TypeId} {q3 : Bool} (hu : P.underlying t = some (.func q1 q2 q3)) (w : World) : (Op.equal t .nilFunc .nilFunc).run P w = .ok true w := equalIn_nf hu 9999 w
theorem equal_fn {P : Program} {t : TypeId} {q1 q2 : Array TypeId} {q3 : Bool} (hu : P.underlying t = some (.func q1 q2 q3)) (fn : Fn) (a b : Array Value) (w : World) : (Op.equal t (.func fn a b) .nilFunc).run P w = .ok false w := equalIn_fn hu 9999 fn a b w

section
variable {E : Env} {S : Nat → Prop} {ρ : Nat → Nat} {tm : List Value} {hp : Hp} {w : World} {ev : Operand → Value} {v : Value} {pc : List Prop}

theorem run_abin (hE : EqsOk E) {op : BinOp} {t : TypeId} {a b a' b' : Value} (h : abin E op t a b = some (v, pc)) (hpc : ∀ p ∈ pc, p) (ha : VR S ρ a a') (hb : VR S ρ b b') (x y : Operand) (w : World) :
    (eqGuard op t x y a' b').run E.P w = .ok () w ∧ (binOp op t a' b').run E.P w = .ok v w ∧ clo v = true := by
  unfold abin at h
  split at h
  · rename_i k m k' n
    obtain rfl : a' = .int k m := ha.self
    obtain rfl : b' = .int k' n := hb.self
    refine ⟨eqGuard_plain E.P op t x y _ _ w ⟨by simp, by simp⟩, ?_⟩
    split at h
    · exact run_ishift h hpc E.P t w
    · exact run_ishift h hpc E.P t w
    · split at h
      · rename_i hk; subst hk
        exact run_ibin h hpc E.P t w
      · cases h
  · rename_i m n
    obtain rfl : a' = .bool m := ha.self
    obtain rfl : b' = .bool n := hb.self
    refine ⟨eqGuard_plain E.P op t x y _ _ w ⟨by simp, by simp⟩, ?_⟩
    split at h
    · rename_i hu
      split at h <;> simp only [Option.some.injEq, Prod.mk.injEq, reduceCtorEq] at h <;> obtain ⟨rfl, rfl⟩ := h
      · exact ⟨run_eql_bool w t m n hu, rfl⟩
      · exact ⟨run_neq_bool w t m n hu, rfl⟩
    · cases h
  · rename_i a0
    obtain rfl : b' = .pointer none := hb.self
    split at h
    · rename_i e hu
      obtain ⟨a1, rfl, hn⟩ : ∃ a1, a' = .pointer a1 ∧ a1.isNone = a0.isNone := by
        cases a0 with
        | none => exact ⟨none, ha.self, rfl⟩
        | some ad => exact ⟨some _, ha.self, rfl⟩
      refine ⟨eqGuard_plain E.P op t x y _ _ w ⟨by simp, by simp⟩, ?_⟩
      split at h <;> simp only [Option.some.injEq, Prod.mk.injEq, reduceCtorEq] at h <;> obtain ⟨rfl, rfl⟩ := h
      all_goals exact ⟨by simp only [binOp]; simp [equal_ptr hu, hn], rfl⟩
    · cases h
  · obtain rfl : a' = .nilFunc := ha.self
    obtain rfl : b' = .nilFunc := hb.self
    split at h
    · rename_i q1 q2 q3 hu
      refine ⟨eqGuard_plain E.P op t x y _ _ w ⟨by simp, by simp⟩, ?_⟩
      split at h <;> simp only [Option.some.injEq, Prod.mk.injEq, reduceCtorEq] at h <;> obtain ⟨rfl, rfl⟩ := h
      all_goals exact ⟨by simp only [binOp]; simp [equal_nf hu], rfl⟩
    · cases h
  · rename_i fn fa fb
    obtain ⟨g1, g2, rfl⟩ : ∃ g1 g2, a' = .func fn g1 g2 := ⟨_, _, ha.self⟩
    obtain rfl : b' = .nilFunc := hb.self
    split at h
    · rename_i q1 q2 q3 hu
      refine ⟨eqGuard_plain E.P op t x y _ _ w ⟨by simp, by simp⟩, ?_⟩
      split at h <;> simp only [Option.some.injEq, Prod.mk.injEq, reduceCtorEq] at h <;> obtain ⟨rfl, rfl⟩ := h
      all_goals exact ⟨by simp only [binOp]; simp [equal_fn hu], rfl⟩
    · cases h
  · rename_i xs ys
    split at h
    · rename_i ks hk
      split at h
      · rename_i bs hbs
        obtain ⟨e1, e2⟩ := eqC_ren ρ ks xs ys bs hbs
        obtain rfl : a' = .agg ⟨xs⟩ := by rw [ha.self, ren_agg, e1]
        obtain rfl : b' = .agg ⟨ys⟩ := by rw [hb.self, ren_agg, e2]
        obtain ⟨q1, q2, q3, q4⟩ := hE t ks hk xs ys bs hbs x y w
        split at h <;> simp only [Option.some.injEq, Prod.mk.injEq, reduceCtorEq] at h <;> obtain ⟨rfl, rfl⟩ := h
        · exact ⟨q1, q3, rfl⟩
        · exact ⟨q2, q4, rfl⟩
      · cases h
    · cases h
  · cases h

/-! ### Structs -/
theorem foldl_splice (off : Nat) : ∀ (vs : List Value) (k : Nat) (cells : List Value), off + k + vs.length ≤ cells.length →
    (vs.zipIdx k).foldl (fun (cs : Array Value) (p : Value × Nat) => cs.setIfInBounds (off + p.2) p.1) ⟨cells⟩ = ⟨cells.take (off + k) ++ (vs ++ cells.drop (off + k + vs.length))⟩
  | [], k, cells, _ => by simp
  | v :: vs, k, cells, h => by
    simp only [List.zipIdx_cons, List.foldl_cons]
    have e : (⟨cells⟩ : Array Value).setIfInBounds (off + k) v = ⟨cells.set (off + k) v⟩ := by
      rw [List.setIfInBounds_toArray]
    rw [e, foldl_splice off vs (k + 1) _ (by simpa using (by simp at h; omega : off + (k + 1) + vs.length ≤ cells.length))]
    congr 1
    simp only [List.length_cons] at h ⊢
    have l1 : (List.take (off + k) cells).length = off + k := by rw [List.length_take]; omega
    have l2 : (List.take (off + (k + 1)) (cells.set (off + k) v)).length = off + k + 1 := by rw [List.length_take, List.length_set]; omega
    apply List.ext_getElem?
    intro j
    rcases Nat.lt_trichotomy j (off + k) with hj | hj | hj
    · rw [List.getElem?_append_left (by omega), List.getElem?_append_left (by omega), List.getElem?_take, List.getElem?_take, if_pos (by omega), if_pos hj, List.getElem?_set_ne (by omega)]
    · subst hj
      rw [List.getElem?_append_left (by omega), List.getElem?_append_right (by omega), List.getElem?_take, if_pos (by omega), l1, Nat.sub_self]
      simp [show off + k < cells.length by omega]
    · have A : ∀ (x y : List Value) n, x.length = n → n ≤ j → (x ++ y)[j]? = y[j - n]? := fun x y n hx hn => by rw [List.getElem?_append_right (by omega), hx]
      rw [A _ _ _ l2 (by omega), A _ _ _ l1 (by omega)]
      have e2 : j - (off + k) = (j - (off + k + 1)) + 1 := by omega
      rw [e2, List.cons_append, List.getElem?_cons_succ]
      generalize j - (off + k + 1) = i
      by_cases hi : i < vs.length
      · rw [List.getElem?_append_left hi, List.getElem?_append_left hi]
      · rw [List.getElem?_append_right (by omega), List.getElem?_append_right (by omega), List.getElem?_drop, List.getElem?_drop, List.getElem?_set_ne (by omega)]
        congr 1
        omega

theorem fill_ren (ρ : Nat → Nat) (place : Nat → Option (Nat × Nat)) : ∀ (ps : List (Nat × Value)) (cells out : List Value), fillL place cells ps = some out →
    Instr.fill place ⟨cells.map (ren ρ)⟩ (ps.map fun p => (p.1, ren ρ p.2)) = some ⟨out.map (ren ρ)⟩
  | [], cells, out, h => by simp only [fillL, Option.some.injEq] at h; subst h; rfl
  | (i, v) :: ps, cells, out, h => by
    simp only [fillL] at h
    split at h
    · cases h
    · rename_i off size hp
      cases hc : (Nat.beq (cellsV v).length size && Nat.ble (off + size) cells.length && (cellsV v).all oneC)
      · simp only [hc, cond_false, reduceCtorEq] at h
      · simp only [hc, cond_true] at h
        simp only [Bool.and_eq_true, Nat.ble_eq] at hc
        have hsz := beq_nat hc.1.1
        have ih := fill_ren ρ place ps _ out h
        simp only [List.map_cons, Instr.fill, hp, cells_eq, cellsV_ren]
        rw [if_neg (by simp; omega)]
        rw [← ih]
        congr 1
        have e := foldl_splice off ((cellsV v).map (ren ρ)) 0 (cells.map (ren ρ)) (by simp; omega)
        rw [← Array.foldl_toList, Array.toList_zipIdx]
        refine e.trans ?_
        simp [hsz]

theorem OR.parts {l : List (Nat × Operand)} : ∀ {ps : List (Nat × Value)}, OR S ρ tm ev (l.map (·.2)) → bindParts tm l = some ps → ∀ ρ', Ag S ρ ρ' → (l.map fun p => (p.1, ev p.2)) = ps.map fun p => (p.1, ren ρ' p.2) := by
  induction l with
  | nil => intro ps _ h; simp only [bindParts, Option.some.injEq] at h; subst h; exact fun _ _ => rfl
  | cons p xs ih =>
    obtain ⟨i, x⟩ := p
    intro ps hO h
    simp only [bindParts] at h
    split at h
    · rename_i v hv
      split at h
      · rename_i vs' hvs
        obtain rfl := Option.some.inj h
        have h1 := hO x (by simp) v hv
        have h2 := ih (fun y hy => hO y (by simp only [List.map_cons, List.mem_cons]; exact .inr hy)) hvs
        exact fun ρ' ha => by rw [List.map_cons, List.map_cons, h1 ρ' ha, h2 ρ' ha]
      · cases h
    · cases h

theorem built_ren {t : TypeId} {ps : List (Nat × Value)} (h : abuild E t ps = some v) (ρ' : Nat → Nat) : ∃ cs, v = .agg ⟨cs⟩ ∧ E.P.built t (ps.map fun p => (p.1, ren ρ' p.2)) = some ⟨cs.map (ren ρ')⟩ := by
  unfold abuild at h
  split at h
  · rename_i z hz
    obtain ⟨i, zv, hi, hzv, rfl, hc⟩ := zcells_some hz
    split at h
    · rename_i fs hu
      split at h
      · rename_i places hpl
        split at h
        · rename_i cs hcs
          obtain rfl := Option.some.inj h
          refine ⟨cs, rfl, ?_⟩
          have := fill_ren ρ' _ ps _ cs hcs
          rw [map_ren_clo ρ' hc] at this
          simp only [Program.built, hi, hu, hzv, hpl, cells_eq]
          rw [← this]
          congr 1
          funext j
          simp
        · cases h
      · cases h
    · rename_i n e hu
      split at h
      · rename_i j hj
        split at h
        · rename_i cs hcs
          obtain rfl := Option.some.inj h
          refine ⟨cs, rfl, ?_⟩
          have := fill_ren ρ' _ ps _ cs hcs
          rw [map_ren_clo ρ' hc] at this
          simp only [Program.built, hi, hu, hzv, hj, cells_eq]
          rw [← this]
        · cases h
      · cases h
    · cases h
  · cases h

theorem sound_build {t : TypeId} {parts : Array (Nat × Operand)} {o : Oper} {ps : List (Nat × Value)} (ho : o.op = .build t parts) (hb : bindParts tm parts.toList = some ps) (h : abuild E t ps = some v)
    (hO : OR S ρ tm ev o.op.operands.toList) (hH : HR S ρ hp w) : ∃ u w1, Ran ((execOp ev o).run E.P w) u w1 ∧ Res S ρ hp w v hp u w1 := by
  have hps := OR.parts (S := S) (ρ := ρ) (ev := ev) (fun x hx => hO x (by simpa [ho, Op.operands] using hx)) hb
  obtain ⟨cs, rfl, hbt⟩ := built_ren h ρ
  have e : (parts.map fun (p : Nat × Operand) => (p.1, ev p.2)).toList = ps.map fun p => (p.1, ren ρ p.2) := by
    rw [Array.toList_map]; exact hps ρ (Ag.refl _ _)
  refine sound_pure (u := .agg ⟨cs.map (ren ρ)⟩) ?_ (fun ρ' ha => ?_) hH
  · have := run_build (P := E.P) w t (parts.map fun (p : Nat × Operand) => (p.1, ev p.2)) ⟨cs.map (ren ρ)⟩ (by rw [e]; exact hbt)
    simp [execOp, ho, this]
  · obtain ⟨cs', hcs', hb'⟩ := built_ren h ρ'
    injection hcs' with q
    injection q with q
    subst q
    have h2 := hps ρ' ha
    rw [← hps ρ (Ag.refl _ _), h2] at hbt
    rw [hb'] at hbt
    rw [ren_agg]
    exact congrArg Value.agg (Option.some.inj hbt).symm

theorem part_ren {t : TypeId} {cs : List Value} {off : Nat} (h : partV E t cs off = some v) (ρ' : Nat → Nat) (w : World) : (part t ⟨cs.map (ren ρ')⟩ off).run E.P w = .ok (ren ρ' v) w := by
  unfold partV at h
  split at h
  · rename_i sz hs
    obtain rfl := Option.some.inj h
    obtain ⟨i, hi, rfl, hag⟩ := shp_some hs
    rw [ren_agg]
    simp [part, hag, run_size hi, List.map_take, List.map_drop]
  · rename_i sz hs
    obtain ⟨i, hi, rfl, hag⟩ := shp_some hs
    simp [part, hag, h]
  · cases h

theorem repL_get (z : List Value) (hz : z ≠ []) : ∀ (n i : Nat), i < n * z.length → (repL z n)[i]? = some z[i % z.length]!
  | 0, i, h => by simp at h
  | n + 1, i, h => by
    have hp : 0 < z.length := List.length_pos_iff.2 hz
    simp only [repL]
    by_cases hi : i < z.length
    · rw [List.getElem?_append_left hi, Nat.mod_eq_of_lt hi]
      simp [hi]
    · rw [List.getElem?_append_right (by omega), repL_get z hz n (i - z.length) (by rw [Nat.succ_mul] at h; omega)]
      congr 2
      exact (Nat.mod_eq_sub_mod (by omega)).symm
theorem repL_length (z : List Value) : ∀ n, (repL z n).length = n * z.length
  | 0 => by simp [repL]
  | n + 1 => by simp only [repL, List.length_append, repL_length z n, Nat.succ_mul]; omega
end
end Go.Proofs.Ytcpkieahnkfpoaa.Ev
