/- Code with loops, by frames that come again under the same names. -/
import Derived.Test.YtcpkieahnkfpoaaEvMove
namespace Go.Proofs.Ytcpkieahnkfpoaa.Ev
open Go Go.RowKit

/-- Code that is begun in a frame ends in one of those that Fin lets in; the names below m0 stay what they are. -/
def CodeC (E : Env) (m0 : Nat) (c : Code) (fr : Fr) (Fin : Ex → Fr → Prop) : Prop :=
  ∀ (ρ : Nat → Nat) (a : Act) (w : World) (Q : Exit → Act → World → Prop), FrR (fun k => k < fr.hp.next) ρ fr.tm fr.hp a w →
    (∀ ex fr1 ρ1 a1 w1, Fin ex fr1 → (∀ k, k < m0 → ρ1 k = ρ k) → FrR (fun k => k < fr1.hp.next) ρ1 fr1.tm fr1.hp a1 w1 → FR ρ ρ1 fr.hp fr1.hp w w1 → Q ex.to a1 w1) → c.wp E.P Q a w

section
variable {E : Env} {m0 : Nat}
theorem CodeC.mono {c : Code} {fr : Fr} {Fin Fin' : Ex → Fr → Prop} (h : CodeC E m0 c fr Fin) (hF : ∀ ex fr1, Fin ex fr1 → Fin' ex fr1) : CodeC E m0 c fr Fin' :=
  fun ρ a w Q hf hQ => h ρ a w Q hf fun ex fr1 ρ1 a1 w1 h1 => hQ ex fr1 ρ1 a1 w1 (hF ex fr1 h1)
theorem CodeC.of_ok {c : Code} {fr fr1 : Fr} {ex : Ex} {Fin : Ex → Fr → Prop} (h : CodeOk E c fr ex fr1) (hpc : ∀ p ∈ fr1.pc, p) (hm : m0 ≤ fr.hp.next) (hF : Fin ex fr1) : CodeC E m0 c fr Fin := by
  obtain ⟨k1, _, h1⟩ := h
  refine fun ρ a w Q hf hQ => h1 _ ρ a w Q hf (fun k h1 _ h3 => by omega) hpc fun a1 w1 haft => ?_
  obtain ⟨ρ1, r1, r2, r3⟩ := haft
  exact hQ ex fr1 ρ1 a1 w1 hF (fun k hk => r1 k (by omega)) (r2.up fun k hk => by
    have := k1.le
    rcases hk with hk | hk
    · omega
    · exact hk.2) r3
theorem CodeC.of_do (hE : EnvOk E) (n : Nat) {c : Code} {fr fr1 : Fr} {ex : Ex} {Fin : Ex → Fr → Prop} (h : doCode E (doCall E n) c fr = some (ex, fr1)) (hpc : ∀ p ∈ fr1.pc, p) (hm : m0 ≤ fr.hp.next) (hF : Fin ex fr1) : CodeC E m0 c fr Fin :=
  CodeC.of_ok (doCode_sound hE.mixed hE.eqs (doCall_ok hE n) c fr ex fr1 h) hpc hm hF
theorem CodeC.move {c : Code} {G F : Fr} {Fin : Ex → Fr → Prop} {ns live : List Nat} {m : Nat} {ds : List Dec} (hC : CodeC E m0 c F Fin) (h : relab ns live m ds G = some F) (hns : ∀ k, k < m0 → ns.getD k 0 = k) : CodeC E m0 c G Fin := by
  intro ρ a w Q hf hQ
  obtain ⟨_, h2, h3⟩ := relab_ok h hf
  exact hC _ a w Q h2 fun ex fr1 ρ1 a1 w1 hF hm hf1 hfr => hQ ex fr1 ρ1 a1 w1 hF (fun k hk => by rw [hm k hk, hns k hk]) hf1 (h3.trans hfr)
theorem CodeC.seq {x y : Code} {fr : Fr} {Mid Fin : Ex → Fr → Prop} (hx : CodeC E m0 x fr Mid) (hy : ∀ fr1, Mid .normal fr1 → CodeC E m0 y fr1 Fin) (he : ∀ ex fr1, ex ≠ .normal → Mid ex fr1 → Fin ex fr1) : CodeC E m0 (.seq x y) fr Fin := by
  refine fun ρ a w Q hf hQ => wp_seq (hx ρ a w _ hf fun ex fr1 ρ1 a1 w1 hM hm hf1 hfr => ?_)
  by_cases hex : ex = .normal
  · subst hex
    exact hy fr1 hM ρ1 a1 w1 Q hf1 fun ex2 fr2 ρ2 a2 w2 hF hm2 hf2 hfr2 => hQ ex2 fr2 ρ2 a2 w2 hF (fun k hk => (hm2 k hk).trans (hm k hk)) hf2 (hfr.trans hfr2)
  · rw [early_to hex]
    exact hQ ex fr1 ρ1 a1 w1 (he ex fr1 hex hM) hm hf1 hfr
theorem CodeC.block {id : Nat} {c : Code} {fr : Fr} {Mid Fin : Ex → Fr → Prop} (hc : CodeC E m0 c fr Mid) (h1 : ∀ fr1, Mid (.exit id) fr1 → Fin .normal fr1) (h2 : ∀ ex fr1, ex ≠ .exit id → Mid ex fr1 → Fin ex fr1) : CodeC E m0 (.block id c) fr Fin := by
  refine fun ρ a w Q hf hQ => wp_block (hc ρ a w _ hf fun ex fr1 ρ1 a1 w1 hM hm hf1 hfr => ?_)
  cases ex with
  | normal => exact hQ .normal fr1 ρ1 a1 w1 (h2 _ _ (by simp) hM) hm hf1 hfr
  | ret => exact hQ .ret fr1 ρ1 a1 w1 (h2 _ _ (by simp) hM) hm hf1 hfr
  | exit j =>
    show if j = id then _ else _
    split
    · rename_i e
      subst e
      exact hQ .normal fr1 ρ1 a1 w1 (h1 _ hM) hm hf1 hfr
    · rename_i e
      exact hQ (.exit j) fr1 ρ1 a1 w1 (h2 _ _ (by simpa using e) hM) hm hf1 hfr
theorem CodeC.cond {t : Nat} {x y : Code} {fr : Fr} {b : Bool} {Fin : Ex → Fr → Prop} (ht : fr.tm.getD t undef = .bool b) (hx : b = true → CodeC E m0 x fr Fin) (hy : b = false → CodeC E m0 y fr Fin) : CodeC E m0 (.cond (.tmp t) x y) fr Fin := by
  intro ρ a w Q hf hQ
  have hev : a.eval (.tmp t) = .bool b := by
    have := hf.tmp t
    rw [ht] at this
    exact this.bool
  exact wp_cond_split hev (fun h => hx h ρ a w Q hf hQ) (fun h => hy h ρ a w Q hf hQ)

/-- A round's end: the frame comes again, further on; or the loop is left. -/
def Again {ι : Type} (m0 : Nat) (F : ι → Fr) (I : ι → Prop) (μ : ι → Nat) (i : ι) (Fin : Ex → Fr → Prop) (ex : Ex) (fr1 : Fr) : Prop :=
  (ex = .normal ∧ ∃ j ns live m ds, relab ns live m ds fr1 = some (F j) ∧ (∀ k, k < m0 → ns.getD k 0 = k) ∧ I j ∧ μ j < μ i) ∨ (ex ≠ .normal ∧ Fin ex fr1)
theorem CodeC.loop {ι : Type} {c : Code} (F : ι → Fr) (I : ι → Prop) (μ : ι → Nat) (Fin : Ex → Fr → Prop) (step : ∀ i, I i → CodeC E m0 c (F i) (Again m0 F I μ i Fin)) : ∀ i, I i → CodeC E m0 (.loop c) (F i) Fin := by
  have key : ∀ (n : Nat) (i : ι), μ i < n → I i → ∀ (ρ : Nat → Nat) (a : Act) (w : World) (Q : Exit → Act → World → Prop), FrR (fun k => k < (F i).hp.next) ρ (F i).tm (F i).hp a w →
      (∀ ex fr1 ρ1 a1 w1, Fin ex fr1 → (∀ k, k < m0 → ρ1 k = ρ k) → FrR (fun k => k < fr1.hp.next) ρ1 fr1.tm fr1.hp a1 w1 → FR ρ ρ1 (F i).hp fr1.hp w w1 → Q ex.to a1 w1) → Code.rounds E.P c Q n a w := by
    intro n
    induction n with
    | zero => intro i h; omega
    | succ n ih =>
      intro i hi hI ρ a w Q hf hQ
      show c.wp E.P _ a w
      refine step i hI ρ a w _ hf fun ex fr1 ρ1 a1 w1 hA hm hf1 hfr => ?_
      rcases hA with ⟨rfl, j, ns, live, m, ds, hr, hns, hj, hμ⟩ | ⟨hex, hF⟩
      · obtain ⟨_, h2, h3⟩ := relab_ok hr hf1
        refine ih j (by omega) hj _ a1 w1 Q h2 fun ex2 fr2 ρ2 a2 w2 hF2 hm2 hf2 hfr2 => hQ ex2 fr2 ρ2 a2 w2 hF2 (fun k hk => ?_) hf2 ((hfr.trans h3).trans hfr2)
        rw [hm2 k hk, hns k hk, hm k hk]
      · rw [early_to hex]
        exact hQ ex fr1 ρ1 a1 w1 hF hm hf1 hfr
  exact fun i hI ρ a w Q hf hQ => wp_loop_rounds (μ i + 1) (key (μ i + 1) i (Nat.lt_succ_self _) hI ρ a w Q hf hQ)

/-! ### Calls -/
/-- What a call comes to, of arguments and a heap by their own names. -/
def CallC (P : Program) (f : FuncId) (args : List Value) (hp : Hp) (v : Value) (hp1 : Hp) : Prop :=
  Enters P f ∧ ∀ ρ w cargs, VRL (fun k => k < hp.next) ρ args cargs → HR (fun k => k < hp.next) ρ hp w →
    Calls P f ⟨cargs⟩ w fun e w1 => ∃ u ρ1, e = .returned u ∧ (∀ k, k < hp.next → ρ1 k = ρ k) ∧ HR (fun k => k < hp1.next) ρ1 hp1 w1 ∧ VR (fun k => k < hp1.next) ρ1 v u ∧ FR ρ ρ1 hp hp1 w w1
/-- A function's end: what it hands back, and what it leaves, under the names that are wanted. -/
def Ends (E : Env) (fn : Func) (m0 : Nat) (v : Value) (hp1 : Hp) (ex : Ex) (fr1 : Fr) : Prop :=
  (∀ id, ex ≠ .exit id) ∧ ∃ vs pc ns m, resV E fr1.tm fr1.hp fn.results.toList = some (vs, pc) ∧ (∀ p ∈ pc, p) ∧ relab ns [0] m [] ⟨[oneV vs], fr1.hp, [], []⟩ = some ⟨[v], hp1, [], []⟩ ∧ isDead v = false ∧ (∀ k, k < m0 → ns.getD k 0 = k)
theorem CallC.of_code {f : FuncId} {fn : Func} {c : Code} {args : List Value} {hp hp1 : Hp} {v : Value} {ds : List Dec} (hfn : E.P.funcs[f]? = some fn) (hname : (fn.name == "runtime.NumGoroutine") = false) (hb : fn.body = some c)
    (h : CodeC E hp.next c ⟨args ++ List.replicate (fn.ntmps - args.length) undef, hp, ds, []⟩ (Ends E fn hp.next v hp1)) : CallC E.P f args hp v hp1 := by
  have hent : Enters E.P f := fun args w => by
    have hne : ¬ fn.name = "runtime.NumGoroutine" := by simpa using hname
    simp [callFunc, go_sem, hfn, hne, hb]
  refine ⟨hent, fun ρ w cargs hargs hH => calls_of_wp hfn hb (h ρ _ w _ ⟨?_, fun t => ?_, hH, rfl⟩ fun ex fr1 ρ1 a1 w1 hF hm hf1 hfr => ?_)⟩
  · have := congrArg List.length hargs.self
    simp at this
    simp [this]
  · have hlen := congrArg List.length hargs.self
    simp at hlen
    have : VRL (fun k => k < hp.next) ρ (args ++ List.replicate (fn.ntmps - args.length) undef) (cargs ++ List.replicate (fn.ntmps - cargs.length) undef) := fun ρ' ha => by
      rw [List.map_append, ← hargs ρ' ha, hlen]
      simp [ren_undef]
    have := this.get t
    have e : (((⟨cargs⟩ : Array Value) ++ Array.replicate (fn.ntmps - (⟨cargs⟩ : Array Value).size) undef).getD t undef) = (cargs ++ List.replicate (fn.ntmps - cargs.length) undef).getD t undef := by
      rw [Array.getD_eq_getD_getElem?, List.getD_eq_getElem?_getD, ← Array.getElem?_toList]
      simp
    rw [e]
    exact .inr this
  · obtain ⟨hex, vs, pc, ns, m, hr, hpc, hrel, hv, hns⟩ := hF
    obtain ⟨u, hu, hvu⟩ := results_sound hf1 hr hpc
    obtain ⟨_, h2, h3⟩ := relab_ok hrel (S := fun k => k < fr1.hp.next) (ρ := ρ1) (a := ⟨#[u], []⟩) (w := w1) ⟨rfl, fun t => by
      cases t with
      | zero => exact .inr hvu
      | succ t => exact .inr fun _ _ => rfl, hf1.heap, rfl⟩
    have hv1 : VR (fun k => k < hp1.next) (fun k => ρ1 (ns.getD k 0)) v u := by
      rcases h2.tmp 0 with h | h
      · rw [show ([v] : List Value).getD 0 undef = v from rfl, hv] at h; cases h
      · exact h
    have hres : ∃ u' ρ', Ending.returned u = .returned u' ∧ (∀ k, k < hp.next → ρ' k = ρ k) ∧ HR (fun k => k < hp1.next) ρ' hp1 w1 ∧ VR (fun k => k < hp1.next) ρ' v u' ∧ FR ρ ρ' hp hp1 w w1 :=
      ⟨u, _, rfl, fun k hk => by rw [hns k hk, hm k hk], h2.heap, hv1, hfr.trans h3⟩
    cases ex with
    | normal => exact ⟨hf1.defers, u, hu, hres⟩
    | ret => exact ⟨hf1.defers, u, hu, hres⟩
    | exit id => exact absurd rfl (hex id)
end
end Go.Proofs.Ytcpkieahnkfpoaa.Ev
