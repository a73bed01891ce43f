/- Code and calls do what the evaluator says. -/
import Derived.Test.YtcpkieahnkfpoaaEvDraw3
import Derived.LoopN
import Derived.Laws.Sem
namespace Go.Proofs.Ytcpkieahnkfpoaa.Ev
open Go Go.RowKit

def Ex.to : Ex → Exit
  | .normal => .normal
  | .exit id => .exit id
  | .ret => .ret

/-- What the evaluator says of a piece of code. -/
def CodeOk (E : Env) (c : Code) (fr : Fr) (ex : Ex) (fr1 : Fr) : Prop :=
  Keep fr.hp fr1.hp ∧ (∀ p ∈ fr.pc, p ∈ fr1.pc) ∧ ∀ (S : Nat → Prop) (ρ : Nat → Nat) (a : Act) (w : World) (Q : Exit → Act → World → Prop), FrR S ρ fr.tm fr.hp a w → NF S fr.hp fr1.hp → (∀ p ∈ fr1.pc, p) →
    (∀ a1 w1, After S ρ fr fr1 w a1 w1 → Q ex.to a1 w1) → c.wp E.P Q a w

section
variable {E : Env} {cf : CallF}
theorem CodeOk.seq {x y : Code} {fr fr1 fr2 : Fr} {ex : Ex} (hx : CodeOk E x fr .normal fr1) (hy : CodeOk E y fr1 ex fr2) : CodeOk E (.seq x y) fr ex fr2 := by
  obtain ⟨k1, p1, h1⟩ := hx
  obtain ⟨k2, p2, h2⟩ := hy
  refine ⟨k1.trans k2, fun p hp => p2 p (p1 p hp), fun S ρ a w Q hf hN hpc hQ => wp_seq (h1 S ρ a w _ hf (hN.left k2.le) (fun p hp => hpc p (p2 p hp)) fun a1 w1 haft => ?_)⟩
  obtain ⟨ρ1, r1, r2, r3⟩ := haft
  exact h2 _ ρ1 a1 w1 Q r2 (hN.right k1.le) hpc fun a2 w2 haft2 => hQ a2 w2 (After.trans k1.le k2.le r1 r3 haft2)
/-- What leaves early leaves the rest behind. -/
theorem CodeOk.early {x y : Code} {fr fr1 : Fr} {ex : Ex} (hx : CodeOk E x fr ex fr1) (he : ∀ next Q, Exit.then next Q ex.to = Q ex.to) : CodeOk E (.seq x y) fr ex fr1 := by
  obtain ⟨k1, p1, h1⟩ := hx
  exact ⟨k1, p1, fun S ρ a w Q hf hN hpc hQ => wp_seq (h1 S ρ a w _ hf hN hpc fun a1 w1 haft => by rw [he]; exact hQ a1 w1 haft)⟩
theorem early_to {ex : Ex} (h : ex ≠ .normal) (next : Act → World → Prop) (Q : Exit → Act → World → Prop) : Exit.then next Q ex.to = Q ex.to := by
  cases ex with
  | normal => exact absurd rfl h
  | exit id => funext a w; rfl
  | ret => funext a w; rfl

theorem rounds_ok {c : Code} {f : Fr → Option (Ex × Fr)} (hc : ∀ fr ex fr1, f fr = some (ex, fr1) → CodeOk E c fr ex fr1) : ∀ (n : Nat) (fr : Fr) (ex : Ex) (fr1 : Fr), loopN f n fr = some (ex, fr1) →
    Keep fr.hp fr1.hp ∧ (∀ p ∈ fr.pc, p ∈ fr1.pc) ∧ ∀ (S : Nat → Prop) (ρ : Nat → Nat) (a : Act) (w : World) (Q : Exit → Act → World → Prop), FrR S ρ fr.tm fr.hp a w → NF S fr.hp fr1.hp → (∀ p ∈ fr1.pc, p) →
    (∀ a1 w1, After S ρ fr fr1 w a1 w1 → Q ex.to a1 w1) → Code.rounds E.P c Q n a w
  | 0, fr, ex, fr1, h => by cases h
  | n + 1, fr, ex, fr1, h => by
    simp only [loopN] at h
    split at h
    · rename_i fr' hf'
      obtain ⟨k1, p1, h1⟩ := hc _ _ _ hf'
      obtain ⟨k2, p2, h2⟩ := rounds_ok hc n _ _ _ h
      refine ⟨k1.trans k2, fun p hp => p2 p (p1 p hp), fun S ρ a w Q hf hN hpc hQ => ?_⟩
      show c.wp E.P _ a w
      refine h1 S ρ a w _ hf (hN.left k2.le) (fun p hp => hpc p (p2 p hp)) fun a1 w1 haft => ?_
      obtain ⟨ρ1, r1, r2, r3⟩ := haft
      exact h2 _ ρ1 a1 w1 Q r2 (hN.right k1.le) hpc fun a2 w2 haft2 => hQ a2 w2 (After.trans k1.le k2.le r1 r3 haft2)
    · rename_i hne
      obtain ⟨k1, p1, h1⟩ := hc _ _ _ h
      refine ⟨k1, p1, fun S ρ a w Q hf hN hpc hQ => ?_⟩
      show c.wp E.P _ a w
      refine h1 S ρ a w _ hf hN hpc fun a1 w1 haft => ?_
      rw [early_to (fun e => hne fr1 (e ▸ h))]
      exact hQ a1 w1 haft

theorem doCode_sound (hm : E.P.follows .mixedOrders = true) (hE : EqsOk E) (hcf : CfOk E.P cf) : ∀ (c : Code) (fr : Fr) (ex : Ex) (fr1 : Fr), doCode E cf c fr = some (ex, fr1) → CodeOk E c fr ex fr1
  | .skip, fr, ex, fr1, h => by
    simp only [doCode, Option.some.injEq, Prod.mk.injEq] at h
    obtain ⟨rfl, rfl⟩ := h
    exact ⟨Keep.refl _, fun _ hp => hp, fun S ρ a w Q hf _ _ hQ => wp_skip (hQ a w (After.refl hf))⟩
  | .region id ops false, fr, ex, fr1, h => by
    simp only [doCode] at h
    split at h
    · rename_i fr' hfr
      simp only [Option.some.injEq, Prod.mk.injEq] at h
      obtain ⟨rfl, rfl⟩ := h
      obtain ⟨h1, h2, h3⟩ := doOps_sound hE hcf _ _ _ _ hfr
      exact ⟨h1, h2, fun S ρ a w Q hf hN hpc hQ => wp_region_list (h3 S ρ a w Q hf hN hpc (fun t d ht => by simp [lookK] at ht) hQ)⟩
    · cases h
  | .region id ops true, fr, ex, fr1, h => by
    simp only [doCode] at h
    split at h
    · rename_i fr' rs hfr
      simp only [Option.some.injEq, Prod.mk.injEq] at h
      obtain ⟨rfl, rfl⟩ := h
      exact doDraw_sound hm hE hcf hfr
    · cases h
  | .seq x y, fr, ex, fr1, h => by
    simp only [doCode] at h
    split at h
    · rename_i fr' hfr
      exact (doCode_sound hm hE hcf x _ _ _ hfr).seq (doCode_sound hm hE hcf y _ _ _ h)
    · rename_i hne
      exact (doCode_sound hm hE hcf x _ _ _ h).early (early_to fun e => hne fr1 (e ▸ h))
  | .cond (.tmp t) x y, fr, ex, fr1, h => by
    simp only [doCode] at h
    split at h
    · rename_i b d ds ht hds
      have hev : ∀ {S : Nat → Prop} {ρ : Nat → Nat} {a : Act} {w : World}, FrR S ρ fr.tm fr.hp a w → a.eval (.tmp t) = .bool b := fun {S ρ a w} hf => by
        have := hf.tmp t
        rw [ht] at this
        exact this.bool
      split at h
      · rename_i pc hd
        obtain ⟨k1, p1, h1⟩ := doCode_sound hm hE hcf x _ _ _ h
        refine ⟨k1, fun p hp => p1 p (List.mem_append.2 (.inl hp)), fun S ρ a w Q hf hN hpc hQ => wp_cond_true ?_ (h1 S ρ a w Q hf hN hpc hQ)⟩
        rw [hev hf, decB_some hd (fun p hp => hpc p (p1 p (List.mem_append.2 (.inr hp))))]
      · rename_i pc hd
        obtain ⟨k1, p1, h1⟩ := doCode_sound hm hE hcf y _ _ _ h
        refine ⟨k1, fun p hp => p1 p (List.mem_append.2 (.inl hp)), fun S ρ a w Q hf hN hpc hQ => wp_cond_false ?_ (h1 S ρ a w Q hf hN hpc hQ)⟩
        rw [hev hf, decB_some hd (fun p hp => hpc p (p1 p (List.mem_append.2 (.inr hp))))]
      · cases h
    · cases h
  | .block id c, fr, ex, fr1, h => by
    simp only [doCode] at h
    split at h
    · rename_i j fr' hfr
      obtain ⟨k1, p1, h1⟩ := doCode_sound hm hE hcf c _ _ _ hfr
      cases hj : Nat.beq j id
      · rw [hj] at h
        simp only [cond_false, Option.some.injEq, Prod.mk.injEq] at h
        obtain ⟨rfl, rfl⟩ := h
        refine ⟨k1, p1, fun S ρ a w Q hf hN hpc hQ => wp_block (h1 S ρ a w _ hf hN hpc fun a1 w1 haft => ?_)⟩
        show if j = id then _ else _
        rw [if_neg (bne_nat hj)]
        exact hQ a1 w1 haft
      · rw [hj] at h
        simp only [cond_true, Option.some.injEq, Prod.mk.injEq] at h
        obtain ⟨rfl, rfl⟩ := h
        refine ⟨k1, p1, fun S ρ a w Q hf hN hpc hQ => wp_block (h1 S ρ a w _ hf hN hpc fun a1 w1 haft => ?_)⟩
        show if j = id then _ else _
        rw [if_pos (beq_nat hj)]
        exact hQ a1 w1 haft
    · rename_i hne
      obtain ⟨k1, p1, h1⟩ := doCode_sound hm hE hcf c _ _ _ h
      refine ⟨k1, p1, fun S ρ a w Q hf hN hpc hQ => wp_block (h1 S ρ a w _ hf hN hpc fun a1 w1 haft => ?_)⟩
      cases ex with
      | normal => exact hQ a1 w1 haft
      | exit j => exact absurd h (hne j fr1)
      | ret => exact hQ a1 w1 haft
  | .loop c, fr, ex, fr1, h => by
    simp only [doCode] at h
    obtain ⟨k1, p1, h1⟩ := rounds_ok (fun fr ex fr1 => doCode_sound hm hE hcf c fr ex fr1) 200 _ _ _ h
    exact ⟨k1, p1, fun S ρ a w Q hf hN hpc hQ => wp_loop_rounds 200 (h1 S ρ a w Q hf hN hpc hQ)⟩
  | .exit id, fr, ex, fr1, h => by
    simp only [doCode, Option.some.injEq, Prod.mk.injEq] at h
    obtain ⟨rfl, rfl⟩ := h
    exact ⟨Keep.refl _, fun _ hp => hp, fun S ρ a w Q hf _ _ hQ => wp_exit (hQ a w (After.refl hf))⟩
  | .ret, fr, ex, fr1, h => by
    simp only [doCode, Option.some.injEq, Prod.mk.injEq] at h
    obtain ⟨rfl, rfl⟩ := h
    exact ⟨Keep.refl _, fun _ hp => hp, fun S ρ a w Q hf _ _ hQ => wp_ret (hQ a w (After.refl hf))⟩
  | .cond (.const _) _ _, fr, ex, fr1, h => by simp [doCode] at h
  | .cond (.func _) _ _, fr, ex, fr1, h => by simp [doCode] at h
  | .cond (.global _) _ _, fr, ex, fr1, h => by simp [doCode] at h
  | .rangeFunc _ _ _ _, fr, ex, fr1, h => by simp [doCode] at h
  | .scope _, fr, ex, fr1, h => by simp [doCode] at h
  | .label _, fr, ex, fr1, h => by simp [doCode] at h
  | .goto _, fr, ex, fr1, h => by simp [doCode] at h
  | .refuse _, fr, ex, fr1, h => by simp [doCode] at h

/-! ### Calls -/
def resG (tmps : Array Value) : ResultVar → Sem Value
  | .tmp t => pure (tmps.getD t undef)
  | .cell a t => do loadVar t (← asAddr (tmps.getD a undef))
theorem results_eq (fn : Func) (tmps : Array Value) : results fn tmps = (do
    let vs ← fn.results.mapM (resG tmps)
    pure (if h : vs.size = 1 then vs[0] else .tuple vs)) := rfl
theorem resV_sound {S : Nat → Prop} {ρ : Nat → Nat} {tm : List Value} {hp : Hp} {a : Act} {w : World} (hf : FrR S ρ tm hp a w) : ∀ (l : List ResultVar) (vs : List Value) (pc : List Prop), resV E tm hp l = some (vs, pc) → (∀ p ∈ pc, p) →
    ∃ us, (l.mapM (resG a.tmps)).run E.P w = .ok us w ∧ VRL S ρ vs us
  | [], vs, pc, h, _ => by
    simp only [resV, Option.some.injEq, Prod.mk.injEq] at h
    obtain ⟨rfl, rfl⟩ := h
    exact ⟨[], by simp [go_sem], fun _ _ => rfl⟩
  | .tmp t :: r, vs, pc, h, hpc => by
    simp only [resV] at h
    split at h
    · rename_i vs' pc' v hr hav
      simp only [Option.some.injEq, Prod.mk.injEq] at h
      obtain ⟨rfl, rfl⟩ := h
      obtain ⟨us, hu, hv⟩ := resV_sound hf r _ _ hr hpc
      obtain ⟨rfl, hd⟩ := aval_tmp hav
      have hvt : VR S ρ (tm.getD t undef) (a.tmps.getD t undef) := by
        rcases hf.tmp t with h | h
        · rw [hd] at h; cases h
        · exact h
      refine ⟨a.tmps.getD t undef :: us, by simp [List.mapM_cons, resG, go_sem, hu], fun ρ' ha => ?_⟩
      rw [List.map_cons, ← hv ρ' ha, ← hvt ρ' ha]
    · cases h
  | .cell t ty :: r, vs, pc, h, hpc => by
    simp only [resV] at h
    split at h
    · rename_i v hp' pc1 hl
      split at h
      · rename_i vs' pc' hr
        simp only [Option.some.injEq, Prod.mk.injEq] at h
        obtain ⟨rfl, rfl⟩ := h
        obtain ⟨us, hu, hv⟩ := resV_sound hf r _ _ hr (fun p hp => hpc p (List.mem_append.2 (.inr hp)))
        have hpc1 : ∀ p ∈ pc1, p := fun p hp => hpc p (List.mem_append.2 (.inl hp))
        have : ∃ n off u, tm.getD t undef = .pointer (some ⟨n, off, none⟩) ∧ (loadVar ty ⟨ρ n, off, none⟩).run E.P w = .ok u w ∧ VR S ρ v u := by
          simp only [aop] at hl
          split at hl
          · rename_i n off hx
            have hx' : tm.getD t undef = .pointer (some ⟨n, off, none⟩) := (aval_tmp hx).1
            split at hl
            · rename_i b hb
              split at hl
              · rename_i sz hs
                split at hl
                · rename_i vs2 pc2 hl2
                  simp only [Option.some.injEq, Prod.mk.injEq] at hl
                  obtain ⟨rfl, rfl, rfl⟩ := hl
                  obtain ⟨u, h1, h2⟩ := sound_loadVar (E := E) (t := ty) hf.heap hb hpc1 (.inl ⟨sz, vs2, hs, hl2, rfl⟩)
                  exact ⟨n, off, u, hx', h1, h2⟩
                · cases hl
              · rename_i sz hs
                split at hl
                · rename_i v2 pc2 hl2
                  simp only [Option.some.injEq, Prod.mk.injEq] at hl
                  obtain ⟨rfl, rfl, rfl⟩ := hl
                  obtain ⟨u, h1, h2⟩ := sound_loadVar (E := E) (t := ty) hf.heap hb hpc1 (.inr ⟨sz, hs, hl2⟩)
                  exact ⟨n, off, u, hx', h1, h2⟩
                · cases hl
              · cases hl
            · cases hl
          · cases hl
        obtain ⟨n, off, u, hx, hrun, hvu⟩ := this
        have hp : a.tmps.getD t undef = .pointer (some ⟨ρ n, off, none⟩) := by
          have := hf.tmp t
          rw [hx] at this
          rcases this with h | h
          · cases h
          · exact h.self
        refine ⟨u :: us, ?_, fun ρ' ha => ?_⟩
        · rw [List.mapM_cons]
          simp only [resG, hp, asAddr, pure_bind]
          generalize loadVar ty ⟨ρ n, off, none⟩ = L at hrun ⊢
          simp [go_sem, hrun, hu]
        · rw [List.map_cons, ← hv ρ' ha, ← hvu ρ' ha]
      · cases h
    · cases h
theorem oneV_sound {S : Nat → Prop} {ρ : Nat → Nat} {vs us : List Value} (h : VRL S ρ vs us) : VR S ρ (oneV vs) (oneV us) := fun ρ' ha => by
  rw [h ρ' ha]
  match vs with
  | [] => simp [oneV, ren_tuple]
  | [v] => simp [oneV]
  | v :: v' :: r => simp [oneV, ren_tuple]
theorem oneV_eq (us : List Value) : (if h : (us.toArray).size = 1 then us.toArray[0] else Value.tuple us.toArray) = oneV us := by
  match us with
  | [] => rfl
  | [v] => rfl
  | v :: v' :: r => simp [oneV]
theorem results_sound {S : Nat → Prop} {ρ : Nat → Nat} {tm : List Value} {hp : Hp} {a : Act} {w : World} (hf : FrR S ρ tm hp a w) {fn : Func} {vs : List Value} {pc : List Prop} (h : resV E tm hp fn.results.toList = some (vs, pc)) (hpc : ∀ p ∈ pc, p) :
    ∃ u, (results fn a.tmps).run E.P w = .ok u w ∧ VR S ρ (oneV vs) u := by
  obtain ⟨us, hu, hv⟩ := resV_sound hf _ _ _ h hpc
  refine ⟨oneV us, ?_, oneV_sound hv⟩
  rw [results_eq, Array.mapM_eq_mapM_toList, ← oneV_eq us]
  simp [go_sem, hu]

/-- What is told holds. -/
structure EnvOk (E : Env) : Prop where
  mixed : E.P.follows .mixedOrders = true
  eqs : EqsOk E
  orc : ∀ f args hp v hp' pc, E.orc f args hp = some (v, hp', pc) → ∀ ds, CallOk E.P f args hp ⟨v, hp', ds, pc⟩

theorem VRL.get {S : Nat → Prop} {ρ : Nat → Nat} {l u : List Value} (h : VRL S ρ l u) (t : Nat) : VR S ρ (l.getD t undef) (u.getD t undef) := fun ρ' ha => by
  rw [h ρ' ha]
  simp only [List.getD_eq_getElem?_getD, List.getElem?_map]
  cases l[t]? with
  | none => rfl
  | some v => rfl

theorem doCall_ok (hE : EnvOk E) : ∀ k, CfOk E.P (doCall E k)
  | 0 => fun f args hp ds out h => by cases h
  | k + 1 => fun f args hp ds out h => by
    simp only [doCall] at h
    split at h
    · rename_i v hp' pc ho
      simp only [Option.some.injEq] at h
      subst h
      exact hE.orc _ _ _ _ _ _ ho ds
    · split at h
      · cases h
      · rename_i fn hfn
        cases hname : (fn.name == "runtime.NumGoroutine")
        · rw [hname] at h
          simp only [cond_false] at h
          split at h
          · cases h
          · rename_i c hb
            have hent : Enters E.P f := fun args w => by
              have hne : ¬ fn.name = "runtime.NumGoroutine" := by simpa using hname
              simp [callFunc, go_sem, hfn, hne, hb]
            have main : ∀ (ex : Ex) (fr : Fr) (vs : List Value) (pc : List Prop), doCode E (doCall E k) c ⟨args ++ List.replicate (fn.ntmps - args.length) undef, hp, ds, []⟩ = some (ex, fr) → (∀ id, ex ≠ .exit id) → resV E fr.tm fr.hp fn.results.toList = some (vs, pc) →
                CallOk E.P f args hp ⟨oneV vs, fr.hp.sweep hp.next vs, fr.ds, fr.pc ++ pc⟩ := fun ex fr vs pc hc hex hr => by
              obtain ⟨k1, p1, h1⟩ := doCode_sound hE.mixed hE.eqs (doCall_ok hE k) c _ _ _ hc
              have k1' : Keep hp fr.hp := k1
              refine ⟨⟨k1'.le, fun m hm hl => mem_below hm (k1'.log m hm hl), fun n hn hl => ?_⟩, hent, fun hpc S ρ w cargs hargs hH hN => calls_of_wp hfn hb (h1 S ρ _ w _ ⟨?_, fun t => ?_, hH, rfl⟩ hN (fun p hp => hpc p (List.mem_append.2 (.inl hp))) fun a1 w1 haft => ?_)⟩
              · show (fr.hp.sweep hp.next vs).get n = hp.get n
                rw [get_sweep_old hn]
                exact k1'.same n hn fun hm => hl (mem_below hn hm)
              · have := congrArg List.length hargs.self
                simp at this
                simp [this]
              · have hlen := congrArg List.length hargs.self
                simp at hlen
                have : VRL S ρ (args ++ List.replicate (fn.ntmps - args.length) undef) (cargs ++ List.replicate (fn.ntmps - cargs.length) undef) := fun ρ' ha => by
                  rw [List.map_append, ← hargs ρ' ha, hlen]
                  simp [ren_undef]
                have := this.get t
                have e : (((⟨cargs⟩ : Array Value) ++ Array.replicate (fn.ntmps - (⟨cargs⟩ : Array Value).size) undef).getD t undef) = (cargs ++ List.replicate (fn.ntmps - cargs.length) undef).getD t undef := by
                  rw [Array.getD_eq_getD_getElem?, List.getD_eq_getElem?_getD, ← Array.getElem?_toList]
                  simp
                rw [e]
                exact .inr this
              · obtain ⟨ρ1, r1, r2, r3⟩ := haft
                obtain ⟨u, hu, hv⟩ := results_sound r2 hr (fun p hp => hpc p (List.mem_append.2 (.inr hp)))
                have hres : Comes1 S ρ hp w ⟨oneV vs, fr.hp.sweep hp.next vs, fr.ds, fr.pc ++ pc⟩ (.returned u) w1 :=
                  ⟨u, rfl, ρ1, r1, r2.heap.less (fun n b hb => get_sweep hb), hv, r3.less (fun n b hb => get_sweep hb)⟩
                cases ex with
                | normal => exact ⟨r2.defers, u, hu, hres⟩
                | ret => exact ⟨r2.defers, u, hu, hres⟩
                | exit id => exact absurd rfl (hex id)
            split at h
            · cases h
            · rename_i ex fr hne hc
              split at h
              · rename_i vs pc hr
                simp only [Option.some.injEq] at h
                subst h
                exact main _ fr vs pc hc (fun id e => by subst e; exact hne id rfl) hr
              · cases h
            · cases h
        · rw [hname] at h
          cases h
end
end Go.Proofs.Ytcpkieahnkfpoaa.Ev
