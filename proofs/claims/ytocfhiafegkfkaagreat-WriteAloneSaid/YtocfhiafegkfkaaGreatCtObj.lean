/- Contracts of functions of an object and a memory, and of the document's machines: how they are lifted. -/
import Derived.Test.YtocfhiafegkfkaaGreatCtPow
namespace Go.Proofs.YtocfhiafegkfkaaGreat.Ct
open Go Go.Proofs Go.Proofs.YtocfhiafegkfkaaGreat.Ev
open Go.RowKit

/-- How an object is told: its type, its cells (by its own name), and how it is read. -/
structure Obj (S : Type) where
  ty : TypeId
  cells : Nat → S → List Value
  parse : Nat → List Value → Option S
structure Obj.Ok {S : Type} (o : Obj S) : Prop where
  parse : ∀ n l s, o.parse n l = some s → l = o.cells n s
  nm : (∀ s, nmL (o.cells 0 s) = []) ∨ (∀ s, nmL (o.cells 0 s) = [0])
  rn : ∀ s σ, rnL σ (o.cells 0 s) = o.cells (σ 0) s
def objOf {S : Type} (o : Obj S) (hp : Hp) (k : Nat) : Option S :=
  match hp.get k with
  | some (.cells cs ty) => bif Nat.beq ty o.ty then o.parse k cs else none
  | _ => none
theorem objOf_some {S : Type} {o : Obj S} (h : o.Ok) {hp : Hp} {k : Nat} {s : S} (hs : objOf o hp k = some s) : hp.get k = some (.cells (o.cells k s) o.ty) := by
  unfold objOf at hs
  split at hs
  · rename_i cs ty hg
    cases hty : Nat.beq ty o.ty
    · simp [hty] at hs
    · simp only [hty, cond_true] at hs
      rw [hg, h.parse _ _ _ hs, beq_nat hty]
  · cases hs
def objHp {S : Type} (o : Obj S) (s : S) (m : Mm) : Hp := ⟨[(0, .cells (o.cells 0 s) o.ty), (1, .cells (m.cells 2) memT), (2, .ints .u64 m.w u64T)], 3, []⟩
abbrev objA (rest : List Value) : List Value := pt0 :: .pointer (some ⟨1, 0, none⟩) :: rest
def noNm (l : List Value) : Bool := (nmL l).isEmpty
def gObj {S : Type} (o : Obj S) (ret : S → Mm → List Value → Value) (st : S → Mm → List Value → S) (me : S → Mm → List Value → Mm) (pre : S → Mm → List Value → Prop) (args : List Value) (hp : Hp) : Option (Value × Hp × List Prop) :=
  match args with
  | .pointer (some ⟨k, 0, none⟩) :: .pointer (some ⟨mk, 0, none⟩) :: rest => match objOf o hp k, memOf hp mk with
    | some s, some (wn, m) => bif nodupB [k, mk, wn] && noNm rest then
        some (ret s m rest, ⟨(k, .cells (o.cells k (st s m rest)) o.ty) :: (mk, .cells ((me s m rest).cells wn) memT) :: (wn, .ints .u64 (me s m rest).w u64T) :: delB [k, mk, wn] hp.blks, hp.next, k :: mk :: wn :: hp.log⟩, [pre s m rest])
      else none
    | _, _ => none
  | _ => none
theorem gObj_ok {S : Type} {o : Obj S} (ho : o.Ok) {ret : S → Mm → List Value → Value} {st : S → Mm → List Value → S} {me : S → Mm → List Value → Mm} {pre : S → Mm → List Value → Prop} {f : FuncId} (hent : Enters Tryz.prog f) (hret : ∀ s m rest, nm (ret s m rest) = [])
    (hC : ∀ s m rest, pre s m rest → CallC Tryz.prog f (objA rest) (objHp o s m) (ret s m rest) (objHp o (st s m rest) (me s m rest))) :
    ∀ args hp v hp' pc, gObj o ret st me pre args hp = some (v, hp', pc) → ∀ ds, CallOk Tryz.prog f args hp ⟨v, hp', ds, pc⟩ := by
  intro args hp v hp' pc hg ds
  unfold gObj at hg
  split at hg
  · rename_i k mk rest
    split at hg
    · rename_i s wn m hs hm
      cases hnd : nodupB [k, mk, wn]
      · simp [hnd] at hg
      cases hrest : noNm rest
      · simp [hrest] at hg
      simp only [hnd, hrest, Bool.true_and, cond_true, Option.some.injEq, Prod.mk.injEq] at hg
      obtain ⟨rfl, rfl, rfl⟩ := hg
      obtain ⟨h1, h2, h3⟩ := memOf_some hm
      have h0 := objOf_some ho hs
      have hx : nmL rest = [] := List.isEmpty_iff.1 hrest
      by_cases hc : pre s m rest
      · have hC' := hC s m rest hc
        have hk1 : allLt 3 (tellers (objA rest) (objHp o s m)) = true := by
          rcases ho.nm with h | h
          · simp [tellers, hx, h, nmL, nm, objHp, tellers.tellB, allLt, Blk.nm, Mm.cells, Cfg.cells, Tc.cells, Nat.blt]
          · simp [tellers, hx, h, nmL, nm, objHp, tellers.tellB, allLt, Blk.nm, Mm.cells, Cfg.cells, Tc.cells, Nat.blt]
        have hk2 : allHas (tellers (objA rest) (objHp o s m)) (upTo 3) = true := by
          rcases ho.nm with h | h
          · simp [tellers, hx, h, nmL, nm, objHp, tellers.tellB, allHas, has, upTo, Blk.nm, Mm.cells, Cfg.cells, Tc.cells, Nat.beq]
          · simp [tellers, hx, h, nmL, nm, objHp, tellers.tellB, allHas, has, upTo, Blk.nm, Mm.cells, Cfg.cells, Tc.cells, Nat.beq]
        have hblk : (Blk.cells (o.cells 0 s) o.ty).rn (ext [k, mk, wn] 3 hp.next) = .cells (o.cells k s) o.ty := by
          show Blk.cells (rnL _ (o.cells 0 s)) o.ty = _
          rw [ho.rn]
          rfl
        have hl := CallC.lift hent (pc := [pre s m rest]) (fun _ => hC') [k, mk, wn] [0, 1, 2] (Nat.le_refl _) rfl hk1 hk2 hnd rfl
          ⟨.inl (by simp), .inl (by simp), .inl (by simp), trivial⟩ (hp := hp) (args := .pointer (some ⟨k, 0, none⟩) :: .pointer (some ⟨mk, 0, none⟩) :: rest) (by simp only [rnL, rnL_none rest hx]; rfl) ⟨show hp.get k = some (Blk.rn (ext [k, mk, wn] 3 hp.next) (Blk.cells (o.cells 0 s) o.ty)) from by rw [hblk]; exact h0, h1, h2, trivial⟩ ds
        rw [rn_none _ (hret s m rest)] at hl
        have e : hp.lay [k, mk, wn] (objHp o s m).next (objHp o (st s m rest) (me s m rest)) [0, 1, 2] = ⟨(k, .cells (o.cells k (st s m rest)) o.ty) :: (mk, .cells ((me s m rest).cells wn) memT) :: (wn, .ints .u64 (me s m rest).w u64T) :: delB [k, mk, wn] hp.blks, hp.next, k :: mk :: wn :: hp.log⟩ := by
          show (⟨(k, .cells (rnL _ (o.cells 0 (st s m rest))) o.ty) :: (mk, .cells ((me s m rest).cells wn) memT) :: (wn, .ints .u64 (me s m rest).w u64T) :: delB [k, mk, wn] hp.blks, hp.next, k :: mk :: wn :: hp.log⟩ : Hp) = _
          rw [ho.rn]
          rfl
        rw [e] at hl
        exact hl
      · refine ⟨⟨Nat.le_refl _, fun m _ hm => List.mem_cons_of_mem _ (List.mem_cons_of_mem _ (List.mem_cons_of_mem _ hm)), fun n _ hl => ?_⟩, hent, fun hpc => absurd (hd1 hpc) hc⟩
        show lookB n _ = lookB n _
        have nb : ∀ a : Nat, n ≠ a → Nat.beq a n = false := fun a ha => by
          cases e : Nat.beq a n
          · rfl
          · exact absurd (beq_nat e).symm ha
        have n1 := nb k fun e => hl (e ▸ List.mem_cons_self)
        have n2 := nb mk fun e => hl (e ▸ List.mem_cons_of_mem _ List.mem_cons_self)
        have n3 := nb wn fun e => hl (e ▸ List.mem_cons_of_mem _ (List.mem_cons_of_mem _ List.mem_cons_self))
        simp only [lookB, n1, n2, n3, cond_false, lookB_del, has]
        rfl
    · cases hg
  · cases hg
/-! The document's machines -/
def gDoc {S : Type} (parse : List Value → Option S) (cells : S → List Value) (st : S → Mm → S) (me : S → Mm → Mm) (pre : S → Mm → Prop) (args : List Value) (hp : Hp) : Option (Value × Hp × List Prop) :=
  match args with
  | [.agg ⟨l⟩, r] => match parse l, refOf hp r with
    | some d, some (_, _, m) => some (.tuple ⟨[.agg ⟨cells (st d m)⟩, .agg ⟨(me d m).rcells hp.next (hp.next + 1)⟩]⟩, refPut hp (me d m), [pre d m])
    | _, _ => none
  | _ => none
abbrev docA {S : Type} (cells : S → List Value) (d : S) (m : Mm) : List Value := [.agg ⟨cells d⟩, .agg ⟨m.rcells 0 1⟩]
def docV (l : List Value) (m : Mm) (a b : Nat) : Value := .tuple ⟨[.agg ⟨l⟩, .agg ⟨m.rcells a b⟩]⟩
theorem docV_rn {l : List Value} (h : nmL l = []) (m : Mm) (σ : Nat → Nat) : rn σ (docV l m 2 3) = docV l m (σ 2) (σ 3) := by
  show Value.tuple ⟨[.agg ⟨rnL σ l⟩, .agg ⟨m.rcells (σ 2) (σ 3)⟩]⟩ = _
  rw [rnL_none l h]
  rfl
theorem docV_nm {l : List Value} (h : nmL l = []) (m : Mm) : ∀ k ∈ nm (docV l m 2 3), k < 4 := fun k hk => by
  simp [docV, nm, nmA, nmL, h, Mm.rcells, Cfg.cells, Tc.cells] at hk
  omega
theorem gDoc_ok {S : Type} {parse : List Value → Option S} {cells : S → List Value} (hparse : ∀ l d, parse l = some d → l = cells d) (hnm : ∀ d, nmL (cells d) = []) {st : S → Mm → S} {me : S → Mm → Mm} {pre : S → Mm → Prop} {f : FuncId} (hent : Enters Tryz.prog f)
    (hC : ∀ d m, pre d m → CallC Tryz.prog f (docA cells d m) (rHp m) (docV (cells (st d m)) (me d m) 2 3) (rOut m (me d m))) :
    ∀ args hp v hp' pc, gDoc parse cells st me pre args hp = some (v, hp', pc) → ∀ ds, CallOk Tryz.prog f args hp ⟨v, hp', ds, pc⟩ := by
  intro args hp v hp' pc hg ds
  unfold gDoc at hg
  split at hg
  · rename_i l r
    split at hg
    · rename_i d rn cn m hd hq
      simp only [Option.some.injEq, Prod.mk.injEq] at hg
      obtain ⟨rfl, rfl, rfl⟩ := hg
      rw [hparse _ _ hd]
      obtain ⟨rfl, h2, h3⟩ := refOf_some hq
      have hx := hnm d
      have hl := CallC.lift hent (pc := [pre d m]) (fun h => hC d m (hd1 h)) [rn, cn] [2] (by show 2 ≤ 4; omega) rfl (by simp [tellers, nmL, nm, nmA, hx, rHp, tellers.tellB, allLt, Blk.nm, Mm.rcells, Cfg.cells, Tc.cells, Nat.blt]) (by simp [tellers, nmL, nm, nmA, hx, rHp, tellers.tellB, allHas, has, upTo, Blk.nm, Mm.rcells, Cfg.cells, Tc.cells, Nat.beq]) (nodup2 h3) rfl
        ⟨.inr rfl, trivial⟩ (hp := hp) (args := [.agg ⟨cells d⟩, .agg ⟨m.rcells rn cn⟩]) (by simp only [rnL, Ev.rn, rnA, rnL_none _ hx]; rfl) ⟨h2, trivial⟩ ds
      rw [docV_rn (hnm _)] at hl
      exact hl
    · cases hg
  · cases hg
def rVw' (m : Mm) (w : List Int) : Hp := ⟨[(0, .view 0 (.ints .u64 m.w u64T)), (2, .view 0 (.ints .u64 w u64T))], 4, []⟩
theorem r_vw' {f : FuncId} {args : List Value} {m m' : Mm} {V : Nat → Nat → Value} (hV : ∀ σ, rn σ (V 2 3) = V (σ 2) (σ 3)) (hn : ∀ k ∈ nm (V 2 3), k < 4) (h : CallC Tryz.prog f args (rHp m) (V 2 3) (rVw' m m'.w)) : CallC Tryz.prog f args (rHp m) (V 2 3) (rOut m m') := by
  refine CallC.alias h (rHp_isV m) [0, 1, 2, 3] (fun k hk => ?_) (hV fun k => [0, 1, 2, 3].getD k 0).symm hn fun n b hb => ?_
  · match k, hk with
    | 0, _ => rfl
    | 1, _ => rfl
  · rcases rOut_get hb with ⟨rfl, rfl⟩ | ⟨rfl, rfl⟩
    · exact ⟨by show 2 < 4; omega, rfl, .view 0 (.ints .u64 m'.w u64T), rfl, rfl, fun ρ o ho ρ'' => view_view ρ o ho ρ''⟩
    · exact ⟨by show 0 < 4; omega, rfl, .view 0 (.ints .u64 m.w u64T), rfl, rfl, fun ρ o ho ρ'' => view_view ρ o ho ρ''⟩
end Go.Proofs.YtocfhiafegkfkaaGreat.Ct
