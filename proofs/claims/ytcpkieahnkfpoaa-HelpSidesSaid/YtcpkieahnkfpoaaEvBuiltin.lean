/- The built-in functions do what the evaluator says. -/
import Derived.Test.YtcpkieahnkfpoaaEvKeep
namespace Go.Proofs.Ytcpkieahnkfpoaa.Ev
open Go Go.RowKit

theorem VRL.nil {S : Nat → Prop} {ρ : Nat → Nat} {a : List Value} (h : VRL S ρ [] a) : a = [] := h.self
theorem VRL.cons {S : Nat → Prop} {ρ : Nat → Nat} {v : Value} {l a : List Value} (h : VRL S ρ (v :: l) a) : ∃ u b, a = u :: b ∧ VR S ρ v u ∧ VRL S ρ l b := by
  have e := h.self
  rw [List.map_cons] at e
  refine ⟨_, _, e, fun ρ' ha => ?_, fun ρ' ha => ?_⟩
  · have := h ρ' ha
    rw [e, List.map_cons] at this
    exact (List.cons.inj this).1
  · have := h ρ' ha
    rw [e, List.map_cons] at this
    exact (List.cons.inj this).2
theorem VRL.mk {S : Nat → Prop} {ρ : Nat → Nat} {v u : Value} {l a : List Value} (h : VR S ρ v u) (h' : VRL S ρ l a) : VRL S ρ (v :: l) (u :: a) :=
  fun ρ' ha => by rw [h ρ' ha, h' ρ' ha, List.map_cons]
theorem VRL.app {S : Nat → Prop} {ρ : Nat → Nat} {l l' a a' : List Value} (h : VRL S ρ l a) (h' : VRL S ρ l' a') : VRL S ρ (l ++ l') (a ++ a') :=
  fun ρ' ha => by rw [h ρ' ha, h' ρ' ha, List.map_append]

section
variable {E : Env} {S : Nat → Prop} {ρ : Nat → Nat} {hp : Hp} {w : World}

theorem slice_of {a : Addr} {n c : Nat} {u : Value} (h : VR S ρ (.slice (some a) n c) u) : ∃ c', u = .slice (some ⟨ρ a.block, a.off, none⟩) n c' := ⟨_, h.self⟩

/-- The cells of a row of numbers. -/
theorem Blk.sat_row {ρ : Nat → Nat} {b : Blk} {k : IntKind} {l : List Int} {so : Nat} {q : Prop} {o : Obj} (hr : rowI so b = some (k, l, q)) (hq : q) (hs : b.sat ρ o) :
    ∃ cells ty fr, o = .cells cells ty fr ∧ ∀ (j : Nat) v, (l.map (Value.int k))[j]? = some v → cells[so + j]? = some v := by
  have plain : ∀ (l : List Int) (k : IntKind) (r : List Value) (j : Nat) v, (l.map (Value.int k))[j]? = some v → (⟨l.map (Value.int k) ++ r⟩ : Array Value)[0 + j]? = some v := fun l k r j v hv => by
    rw [Nat.zero_add, List.getElem?_toArray, List.getElem?_append_left (List.getElem?_eq_some_iff.1 hv).1]
    exact hv
  cases b with
  | ints k' l' ty =>
    simp only [rowI, Option.some.injEq, Prod.mk.injEq] at hr
    obtain ⟨rfl, rfl, rfl⟩ := hr
    obtain ⟨r, h⟩ := hs
    subst hq
    exact ⟨_, ty, _, h, plain _ _ r⟩
  | own b c =>
    cases b with
    | ints k' l' ty =>
      simp only [rowI, Option.some.injEq, Prod.mk.injEq] at hr
      obtain ⟨rfl, rfl, rfl⟩ := hr
      obtain ⟨r, h⟩ := hs.1
      subst hq
      exact ⟨_, ty, _, h, plain _ _ r⟩
    | _ => simp [rowI] at hr
  | view off b =>
    cases b with
    | ints k' l' ty =>
      simp only [rowI, Option.some.injEq, Prod.mk.injEq] at hr
      obtain ⟨rfl, rfl, rfl⟩ := hr
      subst hq
      exact hs
    | _ => simp [rowI] at hr
  | _ => simp [rowI] at hr

theorem int_oneCell (k : IntKind) (l : List Int) : ∀ v ∈ l.map (Value.int k), v.oneCell' = true := fun v hv => by
  obtain ⟨x, _, rfl⟩ := List.mem_map.1 hv; rfl

theorem sound_copy {t e ty : TypeId} {d s so dn sn dc sc : Nat} {q : Prop} {ds' ss' : Option Nat} {k : IntKind} {ld ls : List Int} {sb : Blk} {x y : Value}
    (hs : elemSz E t = some (e, 1)) (hgd : hp.get d = some (.ints k ld ty)) (hgs : hp.get s = some sb) (hrow : rowI so sb = some (k, ls, q)) (hq : q)
    (h1 : Nat.min sn dn ≤ ls.length) (h2 : Nat.min sn dn ≤ ld.length)
    (hx : VR S ρ (.slice (some ⟨d, 0, ds'⟩) dn dc) x) (hy : VR S ρ (.slice (some ⟨s, so, ss'⟩) sn sc) y) (hH : HR S ρ hp w) :
    ∃ u w1, (∀ t' type, (Builtin.copy_ #[t, t'] type #[x, y]).run E.P w = .ok u w1) ∧ Res S ρ hp w (.int .i64 (Nat.min sn dn : Nat)) (hp.set d (.ints k (ls.take (Nat.min sn dn) ++ ld.drop (Nat.min sn dn)) ty)) u w1 := by
  obtain ⟨i, hu, hi, hsz⟩ := elemSz_some hs
  obtain ⟨c1, rfl⟩ := slice_of hx
  obtain ⟨c2, rfl⟩ := slice_of hy
  obtain ⟨o1, ho1, hs1⟩ := hH.block hgd
  obtain ⟨o2, ho2, hs2⟩ := hH.block hgs
  obtain ⟨r1, rfl⟩ := hs1 ρ (Ag.refl _ _)
  obtain ⟨cells2, ty2, fr2, rfl, hc2⟩ := Blk.sat_row hrow hq (hs2 ρ (Ag.refl _ _))
  have hrun := fun t' type => run_copy_row (P := E.P) w t t' type e (ρ d) 0 dn c1 ⟨ρ s, so, none⟩ sn c2 _ ty ((ls.take (Nat.min sn dn)).map (.int k)) hu (by simp [hi, hsz]) ho1 (by simp only [List.length_map, List.length_take]; omega)
    (fun j v hv => by
      rw [Addr.add_mid, cell_of ho2]
      simp only [List.getElem?_map, List.getElem?_take] at hv
      split at hv
      · exact hc2 j v (by rw [List.getElem?_map]; exact hv)
      · cases hv) (by simp only [List.length_map, List.length_take, List.size_toArray, List.length_append]; omega) (int_oneCell _ _)
  have hl : (List.map (Value.int k) (List.take (Nat.min sn dn) ls)).length = Nat.min sn dn := by simp only [List.length_map, List.length_take]; omega
  refine ⟨_, _, hrun, ?_⟩
  refine Res.setRow (b' := .ints k (ls.take (Nat.min sn dn) ++ ld.drop (Nat.min sn dn)) ty) rfl rfl hH hgd ho1 (fun ρ' _ => ?_) (fun _ _ => ?_)
  · refine ⟨r1, ?_⟩
    congr 1
    show List.toArray _ = List.toArray _
    congr 1
    simp only [List.take_zero, List.nil_append, Nat.zero_add, hl]
    rw [List.drop_append_of_le_length (by simpa using h2), List.map_append, List.map_drop, List.append_assoc]
  · rw [hl]
    rfl
end
end Go.Proofs.Ytcpkieahnkfpoaa.Ev
