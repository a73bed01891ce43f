/- Contracts of functions of an entering and a memory: how they are lifted. -/
import Derived.Test.YtocfhiafegkfkaaGreatCtIn
namespace Go.Proofs.YtocfhiafegkfkaaGreat.Ct
open Go Go.Proofs Go.Proofs.YtocfhiafegkfkaaGreat.Ev
open Go.RowKit

/-- The states that are let in: none, or a row, which is one's own or not. -/
inductive Rw where
  | nil
  | row (ow : Bool) (l : List Int)
def Rw.sv (a b : Nat) : Rw → Value
  | .nil => .slice none 0 0
  | .row _ l => .slice (some ⟨a, 0, some b⟩) l.length 0
def rwB (ow : Bool) (l : List Int) (b : Nat) : Blk := bif ow then .own (.ints .i64 l intT) b else .view 0 (.ints .i64 l intT)
def Rw.blk (a b : Nat) : Rw → List (Nat × Blk)
  | .nil => []
  | .row ow l => [(a, rwB ow l b)]
def Rw.l : Rw → List Int
  | .nil => []
  | .row _ l => l
def Rw.nx : Rw → Nat
  | .nil => 3
  | .row _ _ => 5
structure En where
  sl : Int
  s : Int
  h : Int
  st : Rw
  tk : Bool
  dn : Bool
  no : Int
  wd : Int
def En.cells (v : Value) (e : En) : List Value := [.int .i64 e.sl, .int .u64 e.s, .int .u64 e.h, v, .bool e.tk, .bool e.dn, .int .i64 e.no, .int .u64 e.wd]
abbrev enT : TypeId := 152
def enHp (e : En) (m : Mm) : Hp := ⟨[(0, .cells (En.cells (e.st.sv 3 4) e) enT), (1, .cells (m.cells 2) memT), (2, .ints .u64 m.w u64T)] ++ e.st.blk 3 4, e.st.nx, []⟩
/-- An entering, as it stands in a heap: its names, itself, and what has to hold of its row. -/
def enOf (hp : Hp) (k : Nat) : Option (Value × List Nat × En × Prop) :=
  match hp.get k with
  | some (.cells [.int .i64 a, .int .u64 b, .int .u64 h, sv, .bool x, .bool y, .int .i64 z, .int .u64 w] ty) => bif !(Nat.beq ty enT) then none else match sv with
    | .slice none 0 0 => some (sv, [], ⟨a, b, h, .nil, x, y, z, w⟩, True)
    | .slice (some ⟨n, 0, some c⟩) len 0 => match hp.get n with
      | some (.own (.ints .i64 l ty') c') => bif Nat.beq c' c && Nat.beq ty' intT then some (sv, [n, c], ⟨a, b, h, .row true l, x, y, z, w⟩, len = l.length) else none
      | some (.view 0 (.ints .i64 l ty')) => bif Nat.beq ty' intT then some (sv, [n, c], ⟨a, b, h, .row false l, x, y, z, w⟩, len = l.length) else none
      | _ => none
    | _ => none
  | _ => none
theorem enOf_some {hp : Hp} {k : Nat} {sv : Value} {ns : List Nat} {e : En} {q : Prop} (h : enOf hp k = some (sv, ns, e, q)) (hq : q) :
    hp.get k = some (.cells (e.cells sv) enT) ∧ ((e.st = .nil ∧ ns = [] ∧ sv = .slice none 0 0) ∨ ∃ ow l n c, e.st = .row ow l ∧ ns = [n, c] ∧ sv = .slice (some ⟨n, 0, some c⟩) l.length 0 ∧ hp.get n = some (rwB ow l c)) := by
  unfold enOf at h
  split at h
  · rename_i a b h' sv' x y z w ty hk
    cases hty : Nat.beq ty enT
    · simp [hty] at h
    simp only [hty, Bool.not_true, cond_false] at h
    obtain rfl := beq_nat hty
    split at h
    · simp only [Option.some.injEq, Prod.mk.injEq] at h
      obtain ⟨rfl, rfl, rfl, rfl⟩ := h
      exact ⟨hk, .inl ⟨rfl, rfl, rfl⟩⟩
    · rename_i n c len
      split at h
      · rename_i l ty' c' hn
        cases hc : (Nat.beq c' c && Nat.beq ty' intT)
        · simp [hc] at h
        simp only [hc, cond_true, Option.some.injEq, Prod.mk.injEq] at h
        rw [Bool.and_eq_true] at hc
        obtain ⟨rfl, rfl, rfl, rfl⟩ := h
        have e1 := beq_nat hc.1
        have e2 := beq_nat hc.2
        subst e1; subst e2; subst hq
        exact ⟨hk, .inr ⟨true, l, n, c', rfl, rfl, rfl, hn⟩⟩
      · rename_i l ty' hn
        cases hc : Nat.beq ty' intT
        · simp [hc] at h
        simp only [hc, cond_true, Option.some.injEq, Prod.mk.injEq] at h
        obtain ⟨rfl, rfl, rfl, rfl⟩ := h
        have e2 := beq_nat hc
        subst e2; subst hq
        exact ⟨hk, .inr ⟨false, l, n, c, rfl, rfl, rfl, hn⟩⟩
      · cases h
    · cases h
  · cases h
def gEn (ret : En → Mm → List Value → Value) (st : En → Mm → List Value → En) (me : En → Mm → List Value → Mm) (pre : En → Mm → List Value → Prop) (args : List Value) (hp : Hp) : Option (Value × Hp × List Prop) :=
  match args with
  | .pointer (some ⟨k, 0, none⟩) :: .pointer (some ⟨mk, 0, none⟩) :: rest => match enOf hp k, memOf hp mk with
    | some (sv, ns, e, q), some (wn, m) => bif nodupB (k :: mk :: wn :: ns) && noNm rest then
        some (ret e m rest, ⟨(k, .cells (En.cells sv (st e m rest)) enT) :: (mk, .cells ((me e m rest).cells wn) memT) :: (wn, .ints .u64 (me e m rest).w u64T) :: delB [k, mk, wn] hp.blks, hp.next, k :: mk :: wn :: hp.log⟩, [q, pre e m rest])
      else none
    | _, _ => none
  | _ => none
theorem gEn_ok {ret : En → Mm → List Value → Value} {st : En → Mm → List Value → En} {me : En → Mm → List Value → Mm} {pre : En → Mm → List Value → Prop} {f : FuncId} (hent : Enters Tryz.prog f) (hret : ∀ s m rest, nm (ret s m rest) = []) (hst : ∀ e m rest, (st e m rest).st = e.st)
    (hC : ∀ e m rest, pre e m rest → CallC Tryz.prog f (objA rest) (enHp e m) (ret e m rest) (enHp (st e m rest) (me e m rest))) :
    ∀ args hp v hp' pc, gEn ret st me pre args hp = some (v, hp', pc) → ∀ ds, CallOk Tryz.prog f args hp ⟨v, hp', ds, pc⟩ := by
  intro args hp v hp' pc hg ds
  unfold gEn at hg
  split at hg
  · rename_i k mk rest
    split at hg
    · rename_i sv ns e q wn m hs hm
      cases hnd : nodupB (k :: mk :: wn :: ns)
      · simp [hnd] at hg
      cases hrest : noNm rest
      · simp [hrest] at hg
      simp only [hnd, hrest, Bool.true_and, cond_true, Option.some.injEq, Prod.mk.injEq] at hg
      obtain ⟨rfl, rfl, rfl⟩ := hg
      obtain ⟨h1, h2, h3⟩ := memOf_some hm
      have hx : nmL rest = [] := List.isEmpty_iff.1 hrest
      by_cases hc : q ∧ pre e m rest
      · obtain ⟨hq, hpre⟩ := hc
        have hC' := hC e m rest hpre
        have hst' := hst e m rest
        obtain ⟨h0, hor⟩ := enOf_some hs hq
        generalize st e m rest = e' at *
        generalize me e m rest = m' at *
        obtain ⟨a, b, h, r, x, y, z, w⟩ := e
        obtain ⟨a', b', h', r', x', y', z', w'⟩ := e'
        simp only at hst'
        subst hst'
        rcases hor with ⟨hr, rfl, rfl⟩ | ⟨ow, l, n, c, hr, rfl, rfl, hb⟩
        · simp only at hr
          subst hr
          have hl := CallC.lift hent (pc := [q, pre ⟨a, b, h, .nil, x, y, z, w⟩ m rest]) (fun _ => hC') [k, mk, wn] [0, 1, 2] (Nat.le_refl _) rfl (by simp [tellers, hx, enHp, Rw.blk, Rw.sv, Rw.nx, En.cells, nmL, nm, tellers.tellB, allLt, Blk.nm, Mm.cells, Cfg.cells, Tc.cells, Nat.blt]) (by simp [tellers, hx, enHp, Rw.blk, Rw.sv, Rw.nx, En.cells, nmL, nm, tellers.tellB, allHas, has, upTo, Blk.nm, Mm.cells, Cfg.cells, Tc.cells, Nat.beq]) hnd rfl
            ⟨.inl (by simp), .inl (by simp), .inl (by simp), trivial⟩ (hp := hp) (args := .pointer (some ⟨k, 0, none⟩) :: .pointer (some ⟨mk, 0, none⟩) :: rest) (by simp only [rnL, rnL_none rest hx]; rfl) ⟨h0, h1, h2, trivial⟩ ds
          rw [rn_none _ (hret _ m rest)] at hl
          exact hl
        · simp only at hr
          subst hr
          have hl := CallC.lift hent (pc := [q, pre ⟨a, b, h, .row ow l, x, y, z, w⟩ m rest]) (fun _ => hC') [k, mk, wn, n, c] [0, 1, 2] (Nat.le_refl _) rfl (by cases ow <;> simp [tellers, hx, enHp, Rw.blk, rwB, Rw.sv, Rw.nx, En.cells, nmL, nm, tellers.tellB, allLt, Blk.nm, Mm.cells, Cfg.cells, Tc.cells, Nat.blt]) (by cases ow <;> simp [tellers, hx, enHp, Rw.blk, rwB, Rw.sv, Rw.nx, En.cells, nmL, nm, tellers.tellB, allHas, has, upTo, Blk.nm, Mm.cells, Cfg.cells, Tc.cells, Nat.beq]) hnd rfl
            ⟨.inl (by simp), .inl (by simp), .inl (by simp), .inr rfl, trivial⟩ (hp := hp) (args := .pointer (some ⟨k, 0, none⟩) :: .pointer (some ⟨mk, 0, none⟩) :: rest) (by simp only [rnL, rnL_none rest hx]; rfl) ⟨h0, h1, h2, by cases ow <;> exact hb, trivial⟩ ds (by cases ow <;> rfl)
          rw [rn_none _ (hret _ m rest)] at hl
          exact hl
      · refine ⟨⟨Nat.le_refl _, fun m _ hm => List.mem_cons_of_mem _ (List.mem_cons_of_mem _ (List.mem_cons_of_mem _ hm)), fun n _ hl => ?_⟩, hent, fun hpc => absurd ⟨hpc _ (by simp), hpc _ (by simp)⟩ hc⟩
        show lookB n _ = lookB n _
        have nb : ∀ a : Nat, n ≠ a → Nat.beq a n = false := fun a ha => by
          cases e : Nat.beq a n
          · rfl
          · exact absurd (beq_nat e).symm ha
        have n1 := nb k fun e => hl (e ▸ List.mem_cons_self)
        have n2 := nb mk fun e => hl (e ▸ List.mem_cons_of_mem _ List.mem_cons_self)
        have n3 := nb wn fun e => hl (e ▸ List.mem_cons_of_mem _ (List.mem_cons_of_mem _ List.mem_cons_self))
        simp only [lookB, n1, n2, n3, cond_false, lookB_del, has]
        rfl
    · cases hg
  · cases hg
/-! A copy of a row -/
theorem cl_0 : callR Eg3 8 99 [.slice none 0 0] ⟨[], 0, []⟩ [Dec.l] [] = some (.slice none 0 0, ⟨[], 0, []⟩, []) := by kernel_rfl
theorem cl_1 (l : List Int) (o c : Nat) : callR Eg3 8 99 [.slice (some ⟨0, o, none⟩) l.length c] ⟨[(0, .view o (.ints .i64 l intT))], 1, []⟩ [Dec.l] [0, 2, 3] = some (.slice (some ⟨1, 0, some 2⟩) l.length 0, ⟨[(0, .view o (.ints .i64 l intT)), (1, .own (.ints .i64 ([] ++ l.take l.length) intT) 2)], 3, []⟩, [l.length ≤ l.length, o = o, (0 + l.length) * 8 ≤ 140737488355328, 0 + l.length ≤ 9223372036854775807]) := by kernel_rfl
end Go.Proofs.YtocfhiafegkfkaaGreat.Ct
