/- Code piece by piece, from loop to loop. -/
import Derived.Test.YtcpkieahnkfpoaaEvUse
namespace Go.Proofs.Ytcpkieahnkfpoaa.Ev
open Go Go.RowKit

inductive Kt where
  | code (c : Code)
  | blk (id : Nat)

/-- What holds behind the rest. -/
def Hd (P : Program) (Q : Exit → Act → World → Prop) : List Kt → Exit → Act → World → Prop
  | [] => Q
  | .code c :: K => Exit.then (c.wp P (Hd P Q K)) (Hd P Q K)
  | .blk id :: K => Exit.inBlock id (Hd P Q K)

/-- Runs until a loop, or to the end. -/
def exec (E : Env) (cf : CallF) : Nat → Ex → List Kt → Fr → Option (Ex × List Kt × Fr)
  | 0, _, _, _ => none
  | _ + 1, ex, [], fr => some (ex, [], fr)
  | f + 1, .normal, .code (.seq a b) :: K, fr => exec E cf f .normal (.code a :: .code b :: K) fr
  | f + 1, .normal, .code (.block id c) :: K, fr => exec E cf f .normal (.code c :: .blk id :: K) fr
  | _ + 1, .normal, .code (.loop c) :: K, fr => some (.normal, .code (.loop c) :: K, fr)
  | f + 1, .normal, .code (.cond (.tmp t) x y) :: K, fr => match fr.tm.getD t undef, fr.ds with
    | .bool b, d :: ds => match decB b d with
      | some (true, pc) => exec E cf f .normal (.code x :: K) ⟨fr.tm, fr.hp, ds, fr.pc ++ pc⟩
      | some (false, pc) => exec E cf f .normal (.code y :: K) ⟨fr.tm, fr.hp, ds, fr.pc ++ pc⟩
      | none => none
    | _, _ => none
  | f + 1, .normal, .code c :: K, fr => match doCode E cf c fr with
    | some (ex, fr') => exec E cf f ex K fr'
    | none => none
  | f + 1, .normal, .blk _ :: K, fr => exec E cf f .normal K fr
  | f + 1, .exit j, .code _ :: K, fr => exec E cf f (.exit j) K fr
  | f + 1, .exit j, .blk id :: K, fr => bif Nat.beq j id then exec E cf f .normal K fr else exec E cf f (.exit j) K fr
  | f + 1, .ret, _ :: K, fr => exec E cf f .ret K fr

/-- What is left to do, from a frame, ends in one of those that Fin lets in. -/
def KC (E : Env) (m0 : Nat) (ex : Ex) (K : List Kt) (fr : Fr) (Fin : Ex → Fr → Prop) : Prop :=
  ∀ (ρ : Nat → Nat) (a : Act) (w : World) (Q : Exit → Act → World → Prop), FrR (fun k => k < fr.hp.next) ρ fr.tm fr.hp a w →
    (∀ ex fr1 ρ1 a1 w1, Fin ex fr1 → (∀ k, k < m0 → ρ1 k = ρ k) → FrR (fun k => k < fr1.hp.next) ρ1 fr1.tm fr1.hp a1 w1 → FR ρ ρ1 fr.hp fr1.hp w w1 → Q ex.to a1 w1) → Hd E.P Q K ex.to a w

section
variable {E : Env} {m0 : Nat}
theorem KC.whole {c : Code} {fr : Fr} {Fin : Ex → Fr → Prop} (h : KC E m0 .normal [.code c] fr Fin) : CodeC E m0 c fr Fin :=
  fun ρ a w Q hf hQ => Code.wp_mono (fun _ _ _ q => q) (h ρ a w Q hf hQ)
theorem KC.done {ex : Ex} {fr : Fr} {Fin : Ex → Fr → Prop} (h : Fin ex fr) : KC E m0 ex [] fr Fin :=
  fun ρ a w _ hf hQ => hQ ex fr ρ a w h (fun _ _ => rfl) hf (FR.refl _ _ _)
theorem KC.step {c : Code} {K : List Kt} {fr fr1 : Fr} {ex : Ex} {Fin : Ex → Fr → Prop} (h : CodeOk E c fr ex fr1) (hpc : ∀ p ∈ fr1.pc, p) (hm : m0 ≤ fr.hp.next) (hK : KC E m0 ex K fr1 Fin) : KC E m0 .normal (.code c :: K) fr Fin := by
  obtain ⟨k1, _, h1⟩ := h
  refine fun ρ a w Q hf hQ => h1 _ ρ a w _ hf (fun k h1 _ h3 => by omega) hpc fun a1 w1 haft => ?_
  obtain ⟨ρ1, r1, r2, r3⟩ := haft
  have r2' := r2.up (S1 := fun k => k < fr1.hp.next) fun k hk => by
    have := k1.le
    rcases hk with hk | hk
    · omega
    · exact hk.2
  exact hK ρ1 a1 w1 Q r2' fun ex2 fr2 ρ2 a2 w2 hF hm2 hf2 hfr2 => hQ ex2 fr2 ρ2 a2 w2 hF (fun k hk => by rw [hm2 k hk, r1 k (by omega)]) hf2 (r3.trans hfr2)
theorem CodeC.then {c : Code} {K : List Kt} {fr : Fr} {Mid Fin : Ex → Fr → Prop} (h : CodeC E m0 c fr Mid) (hK : ∀ ex fr1, Mid ex fr1 → KC E m0 ex K fr1 Fin) : KC E m0 .normal (.code c :: K) fr Fin :=
  fun ρ a w Q hf hQ => h ρ a w _ hf fun ex fr1 ρ1 a1 w1 hM hm hf1 hfr => hK ex fr1 hM ρ1 a1 w1 Q hf1 fun ex2 fr2 ρ2 a2 w2 hF hm2 hf2 hfr2 => hQ ex2 fr2 ρ2 a2 w2 hF (fun k hk => by rw [hm2 k hk, hm k hk]) hf2 (hfr.trans hfr2)
theorem KC.move {ex : Ex} {K : List Kt} {G F : Fr} {Fin : Ex → Fr → Prop} {ns live : List Nat} {m : Nat} {ds : List Dec} (hC : KC E m0 ex K F Fin) (h : relab ns live m ds G = some F) (hns : ∀ k, k < m0 → ns.getD k 0 = k) : KC E m0 ex K G Fin := by
  intro ρ a w Q hf hQ
  obtain ⟨_, h2, h3⟩ := relab_ok h hf
  exact hC _ a w Q h2 fun ex fr1 ρ1 a1 w1 hF hm hf1 hfr => hQ ex fr1 ρ1 a1 w1 hF (fun k hk => by rw [hm k hk, hns k hk]) hf1 (h3.trans hfr)

theorem exec_sound (hE : EnvOk E) (n : Nat) : ∀ (f : Nat) (ex : Ex) (K : List Kt) (fr : Fr) (ex1 : Ex) (K1 : List Kt) (fr1 : Fr), exec E (doCall E n) f ex K fr = some (ex1, K1, fr1) →
    (∀ p ∈ fr.pc, p ∈ fr1.pc) ∧ ∀ (Fin : Ex → Fr → Prop), (∀ p ∈ fr1.pc, p) → m0 ≤ fr.hp.next → KC E m0 ex1 K1 fr1 Fin → KC E m0 ex K fr Fin := by
  intro f
  induction f with
  | zero => intro ex K fr ex1 K1 fr1 h; simp [exec] at h
  | succ f ih =>
    intro ex K fr ex1 K1 fr1 h
    have plain : ∀ (c : Code) (K : List Kt), (match doCode E (doCall E n) c fr with | some (ex, fr') => exec E (doCall E n) f ex K fr' | none => none) = some (ex1, K1, fr1) →
        (∀ p ∈ fr.pc, p ∈ fr1.pc) ∧ ∀ (Fin : Ex → Fr → Prop), (∀ p ∈ fr1.pc, p) → m0 ≤ fr.hp.next → KC E m0 ex1 K1 fr1 Fin → KC E m0 .normal (.code c :: K) fr Fin := fun c K h => by
      split at h
      · rename_i ex2 fr2 hc
        have hok := doCode_sound hE.mixed hE.eqs (doCall_ok hE n) c fr _ _ hc
        obtain ⟨i1, i2⟩ := ih _ _ _ _ _ _ h
        exact ⟨fun p hp => i1 p (hok.2.1 p hp), fun Fin hpc hm hC => KC.step hok (fun p hp => hpc p (i1 p hp)) hm (i2 Fin hpc (Nat.le_trans hm hok.1.le) hC)⟩
      · cases h
    cases K with
    | nil =>
      simp only [exec, Option.some.injEq, Prod.mk.injEq] at h
      obtain ⟨rfl, rfl, rfl⟩ := h
      exact ⟨fun _ hp => hp, fun _ _ _ hC => hC⟩
    | cons k K =>
      cases ex with
      | normal =>
        cases k with
        | blk id =>
          simp only [exec] at h
          obtain ⟨i1, i2⟩ := ih _ _ _ _ _ _ h
          exact ⟨i1, fun Fin hpc hm hC => i2 Fin hpc hm hC⟩
        | code c =>
          cases c with
          | seq x y =>
            simp only [exec] at h
            obtain ⟨i1, i2⟩ := ih _ _ _ _ _ _ h
            exact ⟨i1, fun Fin hpc hm hC ρ a w Q hf hQ => wp_seq (i2 Fin hpc hm hC ρ a w Q hf hQ)⟩
          | block id c =>
            simp only [exec] at h
            obtain ⟨i1, i2⟩ := ih _ _ _ _ _ _ h
            exact ⟨i1, fun Fin hpc hm hC ρ a w Q hf hQ => wp_block (Code.wp_mono (fun e a w q => by cases e <;> exact q) (i2 Fin hpc hm hC ρ a w Q hf hQ))⟩
          | loop c =>
            simp only [exec, Option.some.injEq, Prod.mk.injEq] at h
            obtain ⟨rfl, rfl, rfl⟩ := h
            exact ⟨fun _ hp => hp, fun _ _ _ hC => hC⟩
          | cond o x y =>
            cases o with
            | tmp t =>
              simp only [exec] at h
              split at h
              · rename_i b d ds ht hds
                have hev : ∀ {S : Nat → Prop} {ρ : Nat → Nat} {a : Act} {w : World}, FrR S ρ fr.tm fr.hp a w → a.eval (.tmp t) = .bool b := fun {S ρ a w} hf => by
                  have := hf.tmp t
                  rw [ht] at this
                  exact this.bool
                split at h
                · rename_i pc hd
                  obtain ⟨i1, i2⟩ := ih _ _ _ _ _ _ h
                  refine ⟨fun p hp => i1 p (List.mem_append.2 (.inl hp)), fun Fin hpc hm hC ρ a w Q hf hQ => wp_cond_true ?_ (i2 Fin hpc hm hC ρ a w Q hf hQ)⟩
                  rw [hev hf, decB_some hd (fun p hp => hpc p (i1 p (List.mem_append.2 (.inr hp))))]
                · rename_i pc hd
                  obtain ⟨i1, i2⟩ := ih _ _ _ _ _ _ h
                  refine ⟨fun p hp => i1 p (List.mem_append.2 (.inl hp)), fun Fin hpc hm hC ρ a w Q hf hQ => wp_cond_false ?_ (i2 Fin hpc hm hC ρ a w Q hf hQ)⟩
                  rw [hev hf, decB_some hd (fun p hp => hpc p (i1 p (List.mem_append.2 (.inr hp))))]
                · cases h
              · cases h
            | _ => exact plain _ K h
          | _ => exact plain _ K h
      | exit j =>
        cases k with
        | blk id =>
          simp only [exec] at h
          cases hj : Nat.beq j id
          · rw [hj] at h
            obtain ⟨i1, i2⟩ := ih _ _ _ _ _ _ h
            refine ⟨i1, fun Fin hpc hm hC ρ a w Q hf hQ => ?_⟩
            show if j = id then _ else _
            rw [if_neg (bne_nat hj)]
            exact i2 Fin hpc hm hC ρ a w Q hf hQ
          · rw [hj] at h
            obtain ⟨i1, i2⟩ := ih _ _ _ _ _ _ h
            refine ⟨i1, fun Fin hpc hm hC ρ a w Q hf hQ => ?_⟩
            show if j = id then _ else _
            rw [if_pos (beq_nat hj)]
            exact i2 Fin hpc hm hC ρ a w Q hf hQ
        | code c =>
          simp only [exec] at h
          obtain ⟨i1, i2⟩ := ih _ _ _ _ _ _ h
          exact ⟨i1, fun Fin hpc hm hC => i2 Fin hpc hm hC⟩
      | ret =>
        simp only [exec] at h
        obtain ⟨i1, i2⟩ := ih _ _ _ _ _ _ h
        refine ⟨i1, fun Fin hpc hm hC => ?_⟩
        cases k with
        | blk id => exact i2 Fin hpc hm hC
        | code c => exact i2 Fin hpc hm hC

/-- From a point to the next loop, or to the end; and what is kept of the frame there. -/
def execR (E : Env) (n : Nat) (ex : Ex) (K : List Kt) (ns live : List Nat) (m0 : Nat) (ds : List Dec) (fr : Fr) : Option (Ex × List Kt × Fr × List Prop) :=
  match exec E (doCall E n) 500 ex K fr with
  | some (ex1, K1, G) => match relab ns live m0 ds G with
    | some F => some (ex1, K1, F, G.pc)
    | none => none
  | none => none
theorem KC.of_exec (hE : EnvOk E) {n : Nat} {ex ex1 : Ex} {K K1 : List Kt} {ns live : List Nat} {m : Nat} {ds : List Dec} {fr F : Fr} {pc : List Prop} {Fin : Ex → Fr → Prop} (h : execR E n ex K ns live m ds fr = some (ex1, K1, F, pc)) (hpc : ∀ p ∈ pc, p) (hm : m0 ≤ fr.hp.next) (hns : ∀ k, k < m0 → ns.getD k 0 = k)
    (hK : KC E m0 ex1 K1 F Fin) : KC E m0 ex K fr Fin := by
  unfold execR at h
  split at h
  · rename_i ex' K' G hG
    split at h
    · rename_i F' hr
      simp only [Option.some.injEq, Prod.mk.injEq] at h
      obtain ⟨rfl, rfl, rfl, rfl⟩ := h
      exact (exec_sound hE n _ _ _ _ _ _ _ hG).2 Fin hpc hm (hK.move hr hns)
    · cases h
  · cases h
/-- A loop, and what comes behind it. -/
theorem KC.loop {ι : Type} {c : Code} {K : List Kt} {Fin : Ex → Fr → Prop} (F : ι → Fr) (I : ι → Prop) (μ : ι → Nat) (Lv : Ex → Fr → Prop)
    (step : ∀ i, I i → CodeC E m0 c (F i) (fun ex fr1 => (ex = .normal ∧ ∃ j, fr1 = F j ∧ I j ∧ μ j < μ i) ∨ (ex ≠ .normal ∧ Lv ex fr1))) (hK : ∀ ex fr1, Lv ex fr1 → KC E m0 ex K fr1 Fin) (i : ι) (hi : I i) : KC E m0 .normal (.code (.loop c) :: K) (F i) Fin :=
  CodeC.then (CodeC.loop' F I μ Lv step i hi) hK
end

def allP : List Prop → Prop
  | [] => True
  | p :: r => p ∧ allP r
theorem pcs_of : ∀ {l : List Prop}, allP l → ∀ p ∈ l, p
  | [], _, p, h => by simp at h
  | q :: r, h, p, hp => by
    rcases List.mem_cons.1 hp with rfl | hp
    · exact h.1
    · exact pcs_of h.2 p hp
/-- A piece of a body, by its place. -/
def piece : List Nat → Code → Code
  | [], c => c
  | 0 :: r, .seq a _ => piece r a
  | 1 :: r, .seq _ b => piece r b
  | 0 :: r, .block _ c => piece r c
  | 0 :: r, .loop c => piece r c
  | 0 :: r, .cond _ a _ => piece r a
  | 1 :: r, .cond _ _ b => piece r b
  | _, _ => .skip
def bd (fn : Func) (p : List Nat) : Code := piece p (fn.body.getD .skip)
theorem CallC.of_body {E : Env} {f : FuncId} {fn : Func} {args : List Value} {hp hp1 : Hp} {v : Value} {ds : List Dec} (k : Nat) (hk : fn.ntmps - args.length = k) (hfn : E.P.funcs[f]? = some fn) (hname : (fn.name == "runtime.NumGoroutine") = false) (hb : fn.body = some (bd fn []))
    (h : KC E hp.next .normal [.code (bd fn [])] ⟨args ++ List.replicate k undef, hp, ds, []⟩ (Ends E fn hp.next v hp1)) : CallC E.P f args hp v hp1 := by
  subst hk
  exact CallC.of_code hfn hname hb (KC.whole h)
end Go.Proofs.Ytcpkieahnkfpoaa.Ev
