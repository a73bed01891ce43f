/- Each operation that calls nothing does what the evaluator says. -/
import Derived.Test.YtcpkieahnkfpoaaEvRel
namespace Go.Proofs.Ytcpkieahnkfpoaa.Ev
open Go Go.RowKit

/-! ### Reading and writing a block -/
theorem rowV_length : ∀ (ks : List IntKind) (x : List Int), (rowV ks x).length = ks.length
  | [], _ => rfl
  | _ :: ks, [] => by simp [rowV, rowV_length ks]
  | _ :: ks, _ :: xs => by simp [rowV, rowV_length ks]
theorem rowAt_eq : ∀ (ks : List IntKind) (l : List (List Int)) (i : Nat), rowAt ks l i ks.length = rowV ks (l.getD i [])
  | [], _, _ => rfl
  | k :: ks, l, i => by
    have ih := rowAt_eq ks (l.map List.tail) i
    have e : (l.map List.tail).getD i [] = (l.getD i []).tail := by
      simp only [List.getD, List.getElem?_map]
      cases l[i]? <;> rfl
    simp only [List.length_cons, rowAt, ih, e]
    cases l.getD i [] <;> rfl
theorem flat_at (ks : List IntKind) : ∀ (l : List (List Int)) (i j : Nat) (r : List Value), i < l.length → j < ks.length →
    (l.flatMap (rowV ks) ++ r)[i * ks.length + j]? = (rowV ks (l.getD i []))[j]?
  | [], i, j, r, h, _ => by simp at h
  | x :: l, 0, j, r, _, hj => by
    rw [Nat.zero_mul, Nat.zero_add, List.flatMap_cons, List.append_assoc, List.getElem?_append_left (by rw [rowV_length]; exact hj)]
    rfl
  | x :: l, i + 1, j, r, h, hj => by
    have ih := flat_at ks l i j r (by simpa using h) hj
    rw [List.flatMap_cons, List.append_assoc, List.getElem?_append_right (by rw [rowV_length, Nat.succ_mul]; omega), rowV_length]
    have e : (i + 1) * ks.length + j - ks.length = i * ks.length + j := by rw [Nat.succ_mul]; omega
    rw [e, ih]
    rfl
theorem rowV_allK {k : IntKind} : ∀ {ks : List IntKind}, allK k ks = true → ∀ (x : List Int) (j : Nat), j < ks.length → (rowV ks x)[j]? = some (.int k (x.getD j 0))
  | [], _, _, j, hj => by simp at hj
  | k' :: ks, h, x, j, hj => by
    simp only [allK] at h
    split at h
    · rename_i e
      subst e
      cases x with
      | nil =>
        cases j with
        | zero => rfl
        | succ j => have := rowV_allK h [] j (by simpa using hj); simpa [rowV] using this
      | cons a x =>
        cases j with
        | zero => rfl
        | succ j => have := rowV_allK h x j (by simpa using hj); simpa [rowV] using this
    · cases h
theorem map_ren_rowV (ρ : Nat → Nat) : ∀ (ks : List IntKind) (x : List Int), (rowV ks x).map (ren ρ) = rowV ks x
  | [], _ => rfl
  | _ :: ks, [] => by simp [rowV, ren, map_ren_rowV ρ ks]
  | _ :: ks, _ :: xs => by simp [rowV, ren, map_ren_rowV ρ ks]

theorem Blk.load_sound {ρ : Nat → Nat} {b : Blk} {off n : Nat} {vs : List Value} {pc : List Prop} {o : Obj} (h : b.load off n = some (vs, pc)) (hpc : ∀ p ∈ pc, p)
    (hs : b.sat ρ o) : vs.length = n ∧ ∃ cells ty fr, o = .cells cells ty fr ∧ ∀ (j : Nat) v, (vs.map (ren ρ))[j]? = some v → cells[off + j]? = some v := by
  induction b generalizing off vs pc o with
  | own b c ih => exact ih h hpc hs.1
  | view off0 b ih =>
    simp only [Blk.load] at h
    cases hb : b.rowB
    · simp only [hb, cond_false, reduceCtorEq] at h
    · simp only [hb, cond_true] at h
      split at h
      · rename_i vs' pc' hl
        simp only [Option.some.injEq, Prod.mk.injEq] at h
        obtain ⟨rfl, rfl⟩ := h
        obtain ⟨cells, ty, fr, rfl, hc⟩ := hs
        have ho : off0 ≤ off := hpc _ (by simp)
        obtain ⟨h1, cells', ty', fr', e, h2⟩ := ih (o := .cells ⟨b.rowW ++ []⟩ b.tyW (0, 0)) hl (fun p hp => hpc p (by simp [hp])) (by
          cases b with
          | ints k l ty => exact ⟨[], rfl⟩
          | bools l ty => exact ⟨[], rfl⟩
          | recs ks l ty => exact ⟨[], rfl⟩
          | _ => cases hb)
        refine ⟨h1, cells, ty, fr, rfl, fun j v hv => ?_⟩
        have h3 := h2 j v hv
        injection e with e1 _ _
        subst e1
        simp only [List.getElem?_toArray, List.append_nil] at h3
        have := hc _ v h3
        rw [show off0 + (off - off0 + j) = off + j by omega] at this
        exact this
      · cases h
  | cells cs ty =>
    simp only [Blk.load] at h
    cases hl : Nat.beq ((cs.drop off).take n).length n
    · simp only [hl, cond_false, reduceCtorEq] at h
    · simp only [hl, cond_true, Option.some.injEq, Prod.mk.injEq] at h
      obtain ⟨rfl, rfl⟩ := h
      refine ⟨beq_nat hl, _, _, _, hs, fun j v hv => ?_⟩
      simp only [List.getElem?_map, List.getElem?_take, List.getElem?_drop] at hv
      simp only [List.getElem?_toArray, List.getElem?_map]
      split at hv
      · exact hv
      · cases hv
  | ints k l ty =>
    simp only [Blk.load] at h
    cases hl : Nat.beq n 1
    · simp only [hl, cond_false, reduceCtorEq] at h
    · simp only [hl, cond_true, Option.some.injEq, Prod.mk.injEq] at h
      obtain ⟨rfl, rfl⟩ := h
      obtain ⟨r, rfl⟩ := hs
      have hlt : off < l.length := hpc _ (by simp)
      refine ⟨(beq_nat hl).symm, _, _, _, rfl, fun j v hv => ?_⟩
      cases j with
      | zero =>
        simp only [List.map_cons, List.map_nil, ren_int, List.getElem?_cons_zero, Option.some.injEq] at hv
        subst hv
        simp [List.getElem?_append_left, hlt]
      | succ j => simp at hv
  | bools l ty =>
    simp only [Blk.load] at h
    cases hl : Nat.beq n 1
    · simp only [hl, cond_false, reduceCtorEq] at h
    · simp only [hl, cond_true, Option.some.injEq, Prod.mk.injEq] at h
      obtain ⟨rfl, rfl⟩ := h
      obtain ⟨r, rfl⟩ := hs
      have hlt : off < l.length := hpc _ (by simp)
      refine ⟨(beq_nat hl).symm, _, _, _, rfl, fun j v hv => ?_⟩
      cases j with
      | zero =>
        simp only [List.map_cons, List.map_nil, ren_bool, List.getElem?_cons_zero, Option.some.injEq] at hv
        subst hv
        simp [List.getElem?_append_left, hlt]
      | succ j => simp at hv
  | recs ks l ty =>
    simp only [Blk.load] at h
    cases hl : Nat.beq n ks.length
    · simp only [hl, cond_false] at h
      split at h
      · rename_i k ks'
        cases hk : (Nat.beq n 1 && allK k ks')
        · simp only [hk, cond_false, reduceCtorEq] at h
        · simp only [hk, cond_true, Option.some.injEq, Prod.mk.injEq] at h
          obtain ⟨rfl, rfl⟩ := h
          simp only [Bool.and_eq_true] at hk
          obtain ⟨r, rfl⟩ := hs
          have h1 : off / (ks'.length + 1) < l.length := hpc _ (by simp)
          refine ⟨(beq_nat hk.1).symm, _, _, _, rfl, fun j v hv => ?_⟩
          cases j with
          | zero =>
            simp only [List.map_cons, List.map_nil, ren_int, List.getElem?_cons_zero, Option.some.injEq] at hv
            subst hv
            have hm : off % (ks'.length + 1) < ks'.length + 1 := Nat.mod_lt _ (Nat.succ_pos _)
            have h2 := flat_at (k :: ks') l (off / (ks'.length + 1)) (off % (ks'.length + 1)) r h1 hm
            have he : off / (ks'.length + 1) * (ks'.length + 1) + off % (ks'.length + 1) = off := by
              rw [Nat.mul_comm]; exact Nat.div_add_mod off (ks'.length + 1)
            simp only [List.length_cons] at h2
            rw [he, rowV_allK (k := k) (ks := k :: ks') (by simp [allK, hk.2]) _ _ hm] at h2
            simpa using h2
          | succ j => simp at hv
      · cases h
    · simp only [hl, cond_true, Option.some.injEq, Prod.mk.injEq] at h
      obtain ⟨rfl, rfl⟩ := h
      obtain ⟨r, rfl⟩ := hs
      obtain rfl := beq_nat hl
      have h0 : off % ks.length = 0 := hpc _ (by simp)
      have h1 : off / ks.length < l.length := hpc _ (by simp)
      rw [rowAt_eq]
      refine ⟨rowV_length _ _, _, _, _, rfl, fun j v hv => ?_⟩
      rw [map_ren_rowV] at hv
      have hj : j < ks.length := by
        have := (List.getElem?_eq_some_iff.1 hv).1
        rwa [rowV_length] at this
      have he : off = off / ks.length * ks.length := by
        have := Nat.div_add_mod off ks.length
        rw [h0, Nat.add_zero, Nat.mul_comm] at this
        exact this.symm
      have := flat_at ks l (off / ks.length) j r h1 hj
      rw [← he] at this
      simp only [List.getElem?_toArray]
      rw [this]
      exact hv

theorem Blk.store_len {b b' : Blk} {off : Nat} {vs : List Value} {pc : List Prop} (h : b.store off vs = some (b', pc)) : b'.esz = b.esz ∧ b'.len = b.len := by
  cases b with
  | cells cs ty =>
    simp only [Blk.store] at h
    cases hl : (Nat.ble (off + vs.length) cs.length && vs.all oneC)
    · simp only [hl, cond_false, reduceCtorEq] at h
    · simp only [hl, cond_true, Option.some.injEq, Prod.mk.injEq] at h
      obtain ⟨rfl, rfl⟩ := h
      exact ⟨rfl, rfl⟩
  | ints k l ty =>
    simp only [Blk.store] at h
    split at h
    · split at h
      · simp only [Option.some.injEq, Prod.mk.injEq] at h
        obtain ⟨rfl, rfl⟩ := h
        exact ⟨rfl, by simp [Blk.len]⟩
      · cases h
    · cases h
  | own b c =>
    simp only [Blk.store] at h
    split at h
    · simp only [Option.some.injEq, Prod.mk.injEq] at h
      obtain ⟨rfl, rfl⟩ := h
      exact ⟨rfl, rfl⟩
    · cases h
  | _ => simp [Blk.store] at h
theorem Blk.store_isV {b b' : Blk} {off : Nat} {vs : List Value} {pc : List Prop} (h : b.store off vs = some (b', pc)) : b.isV = false ∧ b'.isV = false := by
  cases b with
  | cells cs ty =>
    simp only [Blk.store] at h
    cases hl : (Nat.ble (off + vs.length) cs.length && vs.all oneC)
    · simp only [hl, cond_false, reduceCtorEq] at h
    · simp only [hl, cond_true, Option.some.injEq, Prod.mk.injEq] at h
      obtain ⟨rfl, rfl⟩ := h
      exact ⟨rfl, rfl⟩
  | ints k l ty =>
    simp only [Blk.store] at h
    split at h
    · split at h
      · simp only [Option.some.injEq, Prod.mk.injEq] at h
        obtain ⟨rfl, rfl⟩ := h
        exact ⟨rfl, rfl⟩
      · cases h
    · cases h
  | own b c =>
    simp only [Blk.store] at h
    split at h
    · simp only [Option.some.injEq, Prod.mk.injEq] at h
      obtain ⟨rfl, rfl⟩ := h
      exact ⟨rfl, rfl⟩
    · cases h
  | bools l ty => simp [Blk.store] at h
  | recs ks l ty => simp [Blk.store] at h
  | view off0 b => simp [Blk.store] at h

theorem Blk.store_sound {S : Nat → Prop} {ρ : Nat → Nat} {b b' : Blk} {off : Nat} {vs : List Value} {us : List Value} {pc : List Prop} {o : Obj} (h : b.store off vs = some (b', pc)) (hpc : ∀ p ∈ pc, p)
    (hs : ∀ ρ', Ag S ρ ρ' → b.sat ρ' o) (hv : VRL S ρ vs us) : ∃ cells ty, o = .cells cells ty (0, 0) ∧ off + us.length ≤ cells.size ∧ (∀ v ∈ us, v.oneCell' = true) ∧
      ∀ ρ', Ag S ρ ρ' → b'.sat ρ' (.cells (cells.toList.take off ++ us ++ cells.toList.drop (off + us.length)).toArray ty (0, 0)) := by
  induction b generalizing b' pc with
  | view off0 b ih => simp [Blk.store] at h
  | own b c ih =>
    simp only [Blk.store] at h
    split at h
    · rename_i b2 pc2 h2
      simp only [Option.some.injEq, Prod.mk.injEq] at h
      obtain ⟨rfl, rfl⟩ := h
      obtain ⟨cells, ty, rfl, hf, h1, h3⟩ := ih h2 hpc (fun ρ' ha => (hs ρ' ha).1)
      obtain ⟨q1, q2⟩ := Blk.store_len h2
      refine ⟨cells, ty, rfl, hf, h1, fun ρ' ha => ⟨h3 ρ' ha, ?_, ?_, (hs ρ' ha).2.2.2⟩⟩
      · rw [q1, ← (hs ρ' ha).2.1]
        simp only [Obj.size, List.size_toArray, List.length_append, List.length_take, List.length_drop, Array.length_toList]
        omega
      · rw [q2]; exact (hs ρ' ha).2.2.1
    · cases h
  | cells cs ty =>
    simp only [Blk.store] at h
    cases hl : (Nat.ble (off + vs.length) cs.length && vs.all oneC)
    · simp only [hl, cond_false, reduceCtorEq] at h
    · simp only [hl, cond_true, Option.some.injEq, Prod.mk.injEq] at h
      obtain ⟨rfl, rfl⟩ := h
      simp only [Bool.and_eq_true, Nat.ble_eq, List.all_eq_true] at hl
      have h0 := hs ρ (Ag.refl _ _)
      have hu := hv.self
      refine ⟨_, _, h0, ?_, ?_, fun ρ' ha => ?_⟩
      · simp [hu]; exact hl.1
      · intro v hm
        rw [hu] at hm
        obtain ⟨x, hx, rfl⟩ := List.mem_map.1 hm
        rw [oneC_eq, oneC_ren]
        exact hl.2 x hx
      · have hc : cs.map (ren ρ) = cs.map (ren ρ') := by
          have h2 : o = Obj.cells ⟨cs.map (ren ρ')⟩ ty (0, 0) := hs ρ' ha
          have h1 : o = Obj.cells ⟨cs.map (ren ρ)⟩ ty (0, 0) := h0
          rw [h1] at h2
          injection h2 with e _ _
          injection e
        have hu' := hv ρ' ha
        show _ = Obj.cells _ _ _
        simp only [hc]
        congr 1
        rw [hu']
        simp [List.map_take, List.map_drop]
  | ints k l ty =>
    cases vs with
    | nil => simp [Blk.store] at h
    | cons v vs =>
      cases vs with
      | cons _ _ => cases v <;> simp [Blk.store] at h
      | nil =>
        cases v with
        | int k' x =>
          simp only [Blk.store] at h
          split at h
          · rename_i hk
            subst hk
            simp only [Option.some.injEq, Prod.mk.injEq] at h
            obtain ⟨rfl, rfl⟩ := h
            have hlt : off < l.length := hpc _ (by simp)
            obtain ⟨r, rfl⟩ := hs ρ (Ag.refl _ _)
            have hu : us = [.int k' x] := hv.self
            subst hu
            refine ⟨_, _, rfl, by simp; omega, by simp [Value.oneCell'], fun ρ' _ => ⟨r, ?_⟩⟩
            congr 1
            show List.toArray _ = List.toArray _
            congr 1
            simp only [List.length_singleton]
            apply List.ext_getElem?
            intro j
            rcases Nat.lt_trichotomy j off with hj | hj | hj
            · rw [List.append_assoc, List.getElem?_append_left (by simp; omega), List.getElem?_take, if_pos hj, List.getElem?_append_left (by simp; omega), List.getElem?_append_left (by simp; omega)]
              simp [List.getElem?_set_ne (show off ≠ j by omega)]
            · subst hj
              rw [List.append_assoc, List.getElem?_append_right (by simp; omega), List.getElem?_append_left (by simp; omega)]
              have e : j - (List.take j (List.map (Value.int k') l ++ r)).length = 0 := by simp; omega
              rw [e, List.getElem?_append_left (by simpa using hlt)]
              simp [hlt]
            · rw [List.append_assoc, List.getElem?_append_right (by simp; omega), List.getElem?_append_right (by simp; omega), List.getElem?_drop]
              have e : off + 1 + (j - (List.take off (List.map (Value.int k') l ++ r)).length - [Value.int k' x].length) = j := by simp; omega
              rw [e]
              by_cases h2 : j < l.length
              · rw [List.getElem?_append_left (by simp; omega), List.getElem?_append_left (by simp; omega)]
                simp [List.getElem?_set_ne (show off ≠ j by omega)]
              · rw [List.getElem?_append_right (by simp; omega), List.getElem?_append_right (by simp; omega)]
                simp
          · cases h
        | _ => simp [Blk.store] at h
  | bools l ty => simp [Blk.store] at h
  | recs ks l ty => simp [Blk.store] at h
end Go.Proofs.Ytcpkieahnkfpoaa.Ev
