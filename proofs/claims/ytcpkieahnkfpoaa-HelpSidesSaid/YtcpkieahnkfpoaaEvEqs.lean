/- Structs of numbers and bools, and of such structs, are compared cell by cell. -/
import Derived.Test.YtcpkieahnkfpoaaEvLift
namespace Go.Proofs.Ytcpkieahnkfpoaa.Ev
open Go Go.RowKit

def flatF (E : Env) (g : TypeId → Option (Bool × List CK)) : List Field → Nat → Option (List CK)
  | [], _ => some []
  | f :: r, off => if f.name ≠ "_" ∧ f.offset = off then
      match g f.type, shp E f.type with
      | some (b, ks), some (b', sz) => if b = b' ∧ sz = ks.length then
          match flatF E g r (off + ks.length) with
          | some l => some (ks ++ l)
          | none => none
        else none
      | _, _ => none
    else none
def flat (E : Env) : Nat → TypeId → Option (Bool × List CK)
  | 0, _ => none
  | d + 1, t => match E.P.underlying t with
    | some (.int k) => some (false, [.i k])
    | some .bool => some (false, [.b])
    | some (.struct fs) => if E.P.stoodInHeld t then none else
        match flatF E (flat E d) fs.toList 0 with
        | some ks => some (true, ks)
        | none => none
    | _ => none
def mkV (b : Bool) (l : List Value) : Value := if b then .agg ⟨l⟩ else l.getD 0 undef

theorem eqC_app : ∀ {ks ks' : List CK} {xs ys : List Value} {bs : List Bool}, eqC (ks ++ ks') xs ys = some bs →
    ∃ b1 b2, bs = b1 ++ b2 ∧ eqC ks (xs.take ks.length) (ys.take ks.length) = some b1 ∧ eqC ks' (xs.drop ks.length) (ys.drop ks.length) = some b2
  | [], ks', xs, ys, bs, h => ⟨[], bs, rfl, by simp [eqC], by simpa using h⟩
  | .i k :: ks, ks', [], ys, bs, h => by simp [eqC] at h
  | .b :: ks, ks', [], ys, bs, h => by simp [eqC] at h
  | .i k :: ks, ks', x :: xs, [], bs, h => by cases x <;> simp [eqC] at h
  | .b :: ks, ks', x :: xs, [], bs, h => by cases x <;> simp [eqC] at h
  | .i k :: ks, ks', x :: xs, y :: ys, bs, h => by
    cases x <;> cases y <;> simp only [List.cons_append, eqC, reduceCtorEq] at h
    rename_i k1 x k2 y
    split at h
    · rename_i e1
      split at h
      · rename_i e2
        cases hr : eqC (ks ++ ks') xs ys with
        | none => simp [hr] at h
        | some b =>
          simp only [hr, Option.map_some, Option.some.injEq] at h
          obtain ⟨b1, b2, rfl, h1, h2⟩ := eqC_app hr
          exact ⟨(x == y) :: b1, b2, by rw [← h]; rfl, by simp [eqC, e1, e2, h1], by simpa using h2⟩
      · cases h
    · cases h
  | .b :: ks, ks', x :: xs, y :: ys, bs, h => by
    cases x <;> cases y <;> simp only [List.cons_append, eqC, reduceCtorEq] at h
    rename_i x y
    cases hr : eqC (ks ++ ks') xs ys with
    | none => simp [hr] at h
    | some b =>
      simp only [hr, Option.map_some, Option.some.injEq] at h
      obtain ⟨b1, b2, rfl, h1, h2⟩ := eqC_app hr
      exact ⟨(x == y) :: b1, b2, by rw [← h]; rfl, by simp [eqC, h1], by simpa using h2⟩
theorem andL_all : ∀ (bs : List Bool), andL bs = bs.all id
  | [] => rfl
  | [b] => by simp [andL]
  | b :: c :: bs => by rw [andL, andL_all (c :: bs)]; rfl

section
variable {E : Env}
theorem part_run {t : TypeId} {b : Bool} {sz : Nat} (h : shp E t = some (b, sz)) (cs : List Value) (off : Nat) (hl : b = false → off < cs.length) (hs : b = false → 0 < sz) (w : World) :
    (part t ⟨cs⟩ off).run E.P w = .ok (mkV b ((cs.drop off).take sz)) w := by
  obtain ⟨i, hi, rfl, hag⟩ := shp_some h
  cases b with
  | true => simp [part, hag, run_size hi, mkV]
  | false =>
    have := hl rfl
    have h2 := hs rfl
    simp [part, hag, mkV, List.getD_eq_getElem?_getD, List.getElem?_drop, List.getElem?_eq_getElem this, h2]

theorem eq_flatF {d : Nat} (ih : ∀ t b ks, flat E d t = some (b, ks) → (b = false → ks.length = 1) ∧ ∀ xs ys bs, eqC ks xs ys = some bs → ∀ w n, (Op.equalIn (d + n) t (mkV b xs) (mkV b ys)).run E.P w = .ok (bs.all id) w) (n : Nat) (cx cy : List Value) :
    ∀ (fs : List Field) (off : Nat) (ks : List CK), flatF E (flat E d) fs off = some ks → ∀ bs, eqC ks (cx.drop off) (cy.drop off) = some bs → ∀ w, (Op.eqFields (d + n) ⟨cx⟩ ⟨cy⟩ fs).run E.P w = .ok (bs.all id) w
  | [], off, ks, h, bs, hb, w => by
    simp only [flatF, Option.some.injEq] at h
    subst h
    cases hx : cx.drop off <;> cases hy : cy.drop off <;> simp only [hx, hy, eqC, Option.some.injEq, reduceCtorEq] at hb
    subst hb
    simp [Op.eqFields]
  | f :: fs, off, ks, h, bs, hb, w => by
    simp only [flatF] at h
    split at h
    · rename_i hf
      obtain ⟨hn, rfl⟩ := hf
      split at h
      · rename_i b ks1 b' sz hg hs
        split at h
        · rename_i he
          obtain ⟨rfl, rfl⟩ := he
          split at h
          · rename_i l hl
            simp only [Option.some.injEq] at h
            subst h
            obtain ⟨b1, b2, rfl, h1, h2⟩ := eqC_app hb
            obtain ⟨hone, heq⟩ := ih _ _ _ hg
            rw [List.drop_drop, List.drop_drop] at h2
            have hrest := eq_flatF ih n cx cy fs (f.offset + ks1.length) l hl b2 h2
            have hlen : ∀ {ks : List CK} {xs ys : List Value} {bs}, eqC ks xs ys = some bs → xs.length = ks.length ∧ ys.length = ks.length := fun {ks xs ys bs} h => by
              induction ks generalizing xs ys bs with
              | nil => cases xs <;> cases ys <;> simp [eqC] at h <;> exact ⟨rfl, rfl⟩
              | cons c ks ihk =>
                cases xs with
                | nil => cases c <;> simp [eqC] at h
                | cons x xs =>
                  cases ys with
                  | nil => cases c <;> cases x <;> simp [eqC] at h
                  | cons y ys =>
                    have : ∃ bs', eqC ks xs ys = some bs' := by
                      cases c <;> cases x <;> cases y <;> simp only [eqC, reduceCtorEq] at h
                      · split at h
                        · split at h
                          · cases hr : eqC ks xs ys with
                            | none => simp [hr] at h
                            | some b => exact ⟨b, rfl⟩
                          · cases h
                        · cases h
                      · cases hr : eqC ks xs ys with
                        | none => simp [hr] at h
                        | some b => exact ⟨b, rfl⟩
                    obtain ⟨bs', h'⟩ := this
                    obtain ⟨q1, q2⟩ := ihk h'
                    simp [q1, q2]
            obtain ⟨l1, l2⟩ := hlen h1
            simp only [List.length_take, List.length_drop] at l1 l2
            have p1 := part_run hs cx f.offset (fun e => by have := hone e; omega) (fun e => by have := hone e; omega) w
            have p2 := part_run hs cy f.offset (fun e => by have := hone e; omega) (fun e => by have := hone e; omega) w
            have p3 := heq _ _ _ h1 w n
            simp only [Op.eqFields, hn, ne_eq, not_false_eq_true, if_true, Sem.run_bind, p1, p2, Result.andThen_ok, p3]
            cases hb1 : b1.all id
            · simp [hb1]
            · simp [hb1, hrest w]
          · cases h
        · cases h
      · cases h
    · cases h
theorem eq_flat : ∀ (d : Nat) (t : TypeId) (b : Bool) (ks : List CK), flat E d t = some (b, ks) → (b = false → ks.length = 1) ∧ ∀ xs ys bs, eqC ks xs ys = some bs → ∀ w n, (Op.equalIn (d + n) t (mkV b xs) (mkV b ys)).run E.P w = .ok (bs.all id) w
  | 0, t, b, ks, h => by cases h
  | d + 1, t, b, ks, h => by
    simp only [flat] at h
    split at h
    · rename_i k hu
      simp only [Option.some.injEq, Prod.mk.injEq] at h
      obtain ⟨rfl, rfl⟩ := h
      refine ⟨fun _ => rfl, fun xs ys bs hb w n => ?_⟩
      match xs, ys, hb with
      | [], _, hb => simp [eqC] at hb
      | [x], [], hb => cases x <;> simp [eqC] at hb
      | [x], [y], hb =>
        cases x <;> cases y <;> simp only [eqC, reduceCtorEq] at hb
        rename_i k1 x k2 y
        split at hb
        · rename_i e1
          split at hb
          · rename_i e2
            simp only [Option.map_some, Option.some.injEq] at hb
            subst hb
            rw [Nat.add_right_comm]
            rw [e1, e2]
            have := run_equalIn_int (P := E.P) w (d + n) t k k x y hu
            simpa [mkV] using this
          · cases hb
        · cases hb
      | [x], y :: y' :: r, hb => cases x <;> cases y <;> simp [eqC] at hb
      | x :: x' :: r, [], hb => cases x <;> simp [eqC] at hb
      | x :: x' :: r, [y], hb => cases x <;> cases y <;> simp [eqC] at hb
      | x :: x' :: r, y :: y' :: r', hb => cases x <;> cases y <;> simp [eqC] at hb
    · rename_i hu
      simp only [Option.some.injEq, Prod.mk.injEq] at h
      obtain ⟨rfl, rfl⟩ := h
      refine ⟨fun _ => rfl, fun xs ys bs hb w n => ?_⟩
      match xs, ys, hb with
      | [], _, hb => simp [eqC] at hb
      | [x], [], hb => cases x <;> simp [eqC] at hb
      | [x], [y], hb =>
        cases x <;> cases y <;> simp only [eqC, reduceCtorEq] at hb
        simp only [Option.map_some, Option.some.injEq] at hb
        subst hb
        rw [Nat.add_right_comm]
        simp [mkV, run_equalIn_bool' w (d + n) t _ _ hu]
      | [x], y :: y' :: r, hb => cases x <;> cases y <;> simp [eqC] at hb
      | x :: x' :: r, [], hb => cases x <;> simp [eqC] at hb
      | x :: x' :: r, [y], hb => cases x <;> cases y <;> simp [eqC] at hb
      | x :: x' :: r, y :: y' :: r', hb => cases x <;> cases y <;> simp [eqC] at hb
    · rename_i fs hu
      split at h
      · cases h
      · rename_i hst
        split at h
        · rename_i ks' hf
          simp only [Option.some.injEq, Prod.mk.injEq] at h
          obtain ⟨rfl, rfl⟩ := h
          refine ⟨(fun e => nomatch e), fun xs ys bs hb w n => ?_⟩
          have hfs : E.P.fieldsOf t = fs := by simp [Program.fieldsOf, hu]
          rw [Nat.add_right_comm]
          simp only [mkV, if_true]
          rw [run_equalIn_agg w (d + n) t ⟨xs⟩ ⟨ys⟩ (by rw [hfs]; exact hu) (by simpa using hst), hfs]
          exact eq_flatF (fun t b ks h => eq_flat d t b ks h) n xs ys fs.toList 0 ks' hf bs (by simpa using hb) w
        · cases h
    · cases h
/-- A table of types that are compared so. -/
theorem eqsOk_of (h : ∀ t ks, E.eqs t = some ks → flat E 8 t = some (true, ks) ∧ E.P.eqGuardType E.P.depth t = false) : EqsOk E := by
  intro t ks ht xs ys bs hb x y w
  obtain ⟨h1, h2⟩ := h t ks ht
  have he := (eq_flat 8 t true ks h1).2 xs ys bs hb w 9992
  simp only [mkV, if_true] at he
  refine ⟨run_eqGuard_agg w .eql t x y ⟨xs⟩ ⟨ys⟩ h2, run_eqGuard_agg w .neq t x y ⟨xs⟩ ⟨ys⟩ h2, ?_, ?_⟩
  · rw [run_eql_struct, he, andL_all]; rfl
  · rw [run_neq_struct, he, andL_all]; rfl
end
end Go.Proofs.Ytcpkieahnkfpoaa.Ev
