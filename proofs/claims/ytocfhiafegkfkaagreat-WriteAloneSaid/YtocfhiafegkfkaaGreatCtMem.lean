/- A memory's accesses, and the document's, told by plain functions of the words: their shapes. -/
import Derived.Test.YtocfhiafegkfkaaGreatCtSame
import Derived.Test.YtocfhiafegkfkaaGreatEvAlias2
namespace Go.Proofs.YtocfhiafegkfkaaGreat.Ct
open Go Go.Proofs Go.Proofs.YtocfhiafegkfkaaGreat.Ev
open Go.RowKit

abbrev memT : TypeId := 118
def getW (w : List Int) (i : Int) : Int := if 0 ≤ i then w.getD i.toNat 0 else 0
def setW (w : List Int) (i v : Int) : List Int := if 0 ≤ i then w.set i.toNat v else w
def swpW (w : List Int) (i old v : Int) : List Int := if getW w i = old then setW w i v else w
def addW (w : List Int) (i v : Int) : List Int := setW w i (u64 (getW w i + v))

structure Tc where
  kind : Int
  sk : Int
  sn : Int
  old : Int
  new : Int
  done : Bool
def Tc.cells (t : Tc) : List Value := [.int .i64 t.kind, .int .i64 t.sk, .int .i64 t.sn, .int .u64 t.old, .int .u64 t.new, .bool t.done]
def tcL : List Value → Option Tc
  | [.int .i64 a, .int .i64 b, .int .i64 d, .int .u64 e, .int .u64 f, .bool h] => some ⟨a, b, d, e, f, h⟩
  | _ => none
theorem tcL_some {l : List Value} {t : Tc} (h : tcL l = some t) : l = t.cells := by
  unfold tcL at h
  split at h
  · obtain rfl := Option.some.inj h; rfl
  · cases h
/-- What is told of a memory. -/
structure Mm where
  c : Cfg
  N : Nat
  M : Nat
  t : Tc
  n : Int
  w : List Int
def Mm.cells (m : Mm) (wn : Nat) : List Value := m.c.cells ++ (.slice (some ⟨wn, 0, none⟩) m.N m.M :: (m.t.cells ++ [.int .i64 m.n]))
def Mm.rcells (m : Mm) (rn cn : Nat) : List Value := m.c.cells ++ (.slice (some ⟨rn, 0, some cn⟩) m.N 0 :: .int .i64 m.n :: m.t.cells)
def memL : List Value → Option (Nat × Mm)
  | [v0, v1, v2, v3, v4, .slice (some ⟨wn, 0, none⟩) N M, a, b, d, e, f, h, .int .i64 n] => match cfgL [v0, v1, v2, v3, v4], tcL [a, b, d, e, f, h] with
    | some c, some t => some (wn, ⟨c, N, M, t, n, []⟩)
    | _, _ => none
  | _ => none
def refL : List Value → Option (Nat × Nat × Mm)
  | [v0, v1, v2, v3, v4, .slice (some ⟨rn, 0, some cn⟩) N 0, .int .i64 n, a, b, d, e, f, h] => match cfgL [v0, v1, v2, v3, v4], tcL [a, b, d, e, f, h] with
    | some c, some t => some (rn, cn, ⟨c, N, 0, t, n, []⟩)
    | _, _ => none
  | _ => none
theorem memL_some {l : List Value} {wn : Nat} {m : Mm} (h : memL l = some (wn, m)) (w : List Int) : l = (⟨m.c, m.N, m.M, m.t, m.n, w⟩ : Mm).cells wn := by
  unfold memL at h
  split at h
  · split at h
    · rename_i hc ht
      simp only [Option.some.injEq, Prod.mk.injEq] at h
      obtain ⟨rfl, rfl⟩ := h
      have e1 := cfgL_some hc
      have e2 := tcL_some ht
      simp only [Cfg.cells, Tc.cells, List.cons.injEq, and_true] at e1 e2
      obtain ⟨rfl, rfl, rfl, rfl, rfl⟩ := e1
      obtain ⟨rfl, rfl, rfl, rfl, rfl, rfl⟩ := e2
      rfl
    · cases h
  · cases h
theorem refL_some {l : List Value} {rn cn : Nat} {m : Mm} (h : refL l = some (rn, cn, m)) (w : List Int) : l = (⟨m.c, m.N, m.M, m.t, m.n, w⟩ : Mm).rcells rn cn := by
  unfold refL at h
  split at h
  · split at h
    · rename_i hc ht
      simp only [Option.some.injEq, Prod.mk.injEq] at h
      obtain ⟨rfl, rfl, rfl⟩ := h
      have e1 := cfgL_some hc
      have e2 := tcL_some ht
      simp only [Cfg.cells, Tc.cells, List.cons.injEq, and_true] at e1 e2
      obtain ⟨rfl, rfl, rfl, rfl, rfl⟩ := e1
      obtain ⟨rfl, rfl, rfl, rfl, rfl, rfl⟩ := e2
      rfl
    · cases h
  · cases h
def memOf (hp : Hp) (k : Nat) : Option (Nat × Mm) :=
  match hp.get k with
  | some (.cells cs ty) => bif Nat.beq ty memT then match memL cs with
      | some (wn, m) => bif Nat.beq k wn then none else match hp.get wn with
        | some (.ints .u64 w ty') => bif Nat.beq ty' u64T then some (wn, ⟨m.c, m.N, m.M, m.t, m.n, w⟩) else none
        | _ => none
      | none => none
    else none
  | _ => none
theorem memOf_some {hp : Hp} {k wn : Nat} {m : Mm} (h : memOf hp k = some (wn, m)) : hp.get k = some (.cells (m.cells wn) memT) ∧ hp.get wn = some (.ints .u64 m.w u64T) ∧ k ≠ wn := by
  unfold memOf at h
  split at h
  · rename_i cs ty hk
    cases hty : Nat.beq ty memT
    · simp [hty] at h
    · simp only [hty, cond_true] at h
      split at h
      · rename_i wn' m' hm
        cases hkw : Nat.beq k wn'
        · simp only [hkw, cond_false] at h
          split at h
          · rename_i w ty' hw
            cases hty' : Nat.beq ty' u64T
            · simp [hty'] at h
            · simp only [hty', cond_true, Option.some.injEq, Prod.mk.injEq] at h
              obtain ⟨rfl, rfl⟩ := h
              have e1 := beq_nat hty
              have e2 := beq_nat hty'
              subst e1; subst e2
              exact ⟨by rw [hk, memL_some hm w], hw, bne_nat hkw⟩
          · cases h
        · simp [hkw] at h
      · cases h
  · cases h
def refOf (hp : Hp) (v : Value) : Option (Nat × Nat × Mm) :=
  match v with
  | .agg ⟨l⟩ => match refL l with
    | some (rn, cn, m) => bif Nat.beq rn cn then none else match hp.get rn with
      | some (.view 0 (.ints .u64 w ty')) => bif Nat.beq ty' u64T then some (rn, cn, ⟨m.c, m.N, m.M, m.t, m.n, w⟩) else none
      | _ => none
    | none => none
  | _ => none
theorem refOf_some {hp : Hp} {v : Value} {rn cn : Nat} {m : Mm} (h : refOf hp v = some (rn, cn, m)) : v = .agg ⟨m.rcells rn cn⟩ ∧ hp.get rn = some (.view 0 (.ints .u64 m.w u64T)) ∧ rn ≠ cn := by
  unfold refOf at h
  split at h
  · split at h
    · rename_i rn' cn' m' hm
      cases hkw : Nat.beq rn' cn'
      · simp only [hkw, cond_false] at h
        split at h
        · rename_i w ty' hw
          cases hty' : Nat.beq ty' u64T
          · simp [hty'] at h
          · simp only [hty', cond_true, Option.some.injEq, Prod.mk.injEq] at h
            obtain ⟨rfl, rfl, rfl⟩ := h
            have e2 := beq_nat hty'
            subst e2
            exact ⟨by rw [refL_some hm w], hw, bne_nat hkw⟩
        · cases h
      · simp [hkw] at h
    · cases h
  · cases h
def mHp (m : Mm) : Hp := ⟨[(0, .cells (m.cells 1) memT), (1, .ints .u64 m.w u64T)], 2, []⟩
def memPut (hp : Hp) (k wn : Nat) (m : Mm) : Hp := ⟨(k, .cells (m.cells wn) memT) :: (wn, .ints .u64 m.w u64T) :: delB [k, wn] hp.blks, hp.next, k :: wn :: hp.log⟩
theorem rn_mcells (σ : Nat → Nat) (m : Mm) (wn : Nat) : rnL σ (m.cells wn) = m.cells (σ wn) := rfl
theorem rn_rcells (σ : Nat → Nat) (m : Mm) (rn cn : Nat) : rnL σ (m.rcells rn cn) = m.rcells (σ rn) (σ cn) := rfl
theorem nodup2 {a b : Nat} (h : a ≠ b) : nodupB [a, b] = true := by
  have : Nat.beq b a = false := by
    cases e : Nat.beq b a
    · rfl
    · exact absurd (beq_nat e).symm h
  simp [nodupB, has, this]
theorem mem_lift {f : FuncId} (hent : Enters Tryz.prog f) {m m' : Mm} {x : List Value} {v : Value} {pc : List Prop} (hC : (∀ p ∈ pc, p) → CallC Tryz.prog f (.pointer (some ⟨0, 0, none⟩) :: x) (mHp m) v (mHp m')) (hx : nmL x = []) (hv : nm v = []) {hp : Hp} {k wn : Nat} (h : memOf hp k = some (wn, m)) (ds : List Dec) :
    CallOk Tryz.prog f (.pointer (some ⟨k, 0, none⟩) :: x) hp ⟨v, memPut hp k wn m', ds, pc⟩ := by
  obtain ⟨h1, h2, h3⟩ := memOf_some h
  have e0 : ext [k, wn] 2 hp.next 0 = k := rfl
  have e1 : ext [k, wn] 2 hp.next 1 = wn := rfl
  have hl := CallC.lift hent hC [k, wn] [0, 1] (Nat.le_refl _) rfl (by simp [tellers, hx, nmL, nm, mHp, tellers.tellB, allLt, Blk.nm, Mm.cells, Cfg.cells, Tc.cells, Nat.blt]) (by simp [tellers, hx, nmL, nm, mHp, tellers.tellB, allHas, has, upTo, Blk.nm, Mm.cells, Cfg.cells, Tc.cells, Nat.beq]) (nodup2 h3) rfl
    ⟨.inl (by simp), .inl (by simp), trivial⟩ (hp := hp) (args := .pointer (some ⟨k, 0, none⟩) :: x) (by simp only [rnL, rnL_none x hx, rn]; rfl) ⟨h1, h2, trivial⟩ ds
  rw [rn_none v hv] at hl
  exact hl
end Go.Proofs.YtocfhiafegkfkaaGreat.Ct
