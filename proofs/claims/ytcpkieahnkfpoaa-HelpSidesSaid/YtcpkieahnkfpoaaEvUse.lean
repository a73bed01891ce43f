/- How the evaluator is used: pieces of code, calls, and contracts. -/
import Derived.Test.YtcpkieahnkfpoaaEvEqs
import Derived.KernelRfl
namespace Go.Proofs.Ytcpkieahnkfpoaa.Ev
open Go Go.RowKit

def dead : Value := .string ⟨#[]⟩
def putL (t : Nat) (v : Value) : List (Nat × Value) → Value
  | [] => v
  | (u, x) :: r => bif Nat.beq u t then x else putL t v r
def mkTm (l : List (Nat × Value)) : Nat → Nat → List Value
  | 0, _ => []
  | n + 1, t => putL t dead l :: mkTm l n (t + 1)
/-- A frame of n temporaries, of which these are known. -/
def mkFr (n : Nat) (l : List (Nat × Value)) (blks : List (Nat × Blk)) (next : Nat) (log : List Nat) (ds : List Dec) : Fr := ⟨mkTm l n 0, ⟨blks, next, log⟩, ds, []⟩

/-- A piece of code, and what is kept of its end. -/
def run (E : Env) (n : Nat) (c : Code) (ns live : List Nat) (m0 : Nat) (ds : List Dec) (fr : Fr) : Option (Ex × Fr × List Prop) :=
  match doCode E (doCall E n) c fr with
  | some (ex, G) => match relab ns live m0 ds G with
    | some F => some (ex, F, G.pc)
    | none => none
  | none => none
/-- A call, and what is kept of its end. -/
def callR (E : Env) (n : Nat) (f : FuncId) (args : List Value) (hp : Hp) (ds : List Dec) (ns : List Nat) : Option (Value × Hp × List Prop) :=
  match doCall E n f args hp ds with
  | some out => match relab ns [0] 0 [] ⟨[out.v], out.hp, [], []⟩ with
    | some F => some (F.tm.getD 0 undef, F.hp, out.pc)
    | none => none
  | none => none

section
variable {E : Env} {m0 : Nat}
theorem CodeC.of_run (hE : EnvOk E) {n : Nat} {c : Code} {ns live : List Nat} {m : Nat} {ds : List Dec} {fr F : Fr} {ex : Ex} {pc : List Prop} {Fin : Ex → Fr → Prop} (h : run E n c ns live m ds fr = some (ex, F, pc)) (hpc : ∀ p ∈ pc, p) (hm : m0 ≤ fr.hp.next) (hns : ∀ k, k < m0 → ns.getD k 0 = k) (hF : Fin ex F) : CodeC E m0 c fr Fin := by
  unfold run at h
  split at h
  · rename_i ex' G hG
    split at h
    · rename_i F' hr
      simp only [Option.some.injEq, Prod.mk.injEq] at h
      obtain ⟨rfl, rfl, rfl⟩ := h
      obtain ⟨k1, _, h1⟩ := doCode_sound hE.mixed hE.eqs (doCall_ok hE n) c fr _ _ hG
      refine fun ρ a w Q hf hQ => h1 _ ρ a w Q hf (fun k h1 _ h3 => by omega) hpc fun a1 w1 haft => ?_
      obtain ⟨ρ1, r1, r2, r3⟩ := haft
      obtain ⟨_, q2, q3⟩ := relab_ok hr r2
      exact hQ _ F' _ a1 w1 hF (fun k hk => by rw [hns k hk, r1 k (by omega)]) q2 (r3.trans q3)
    · cases h
  · cases h
theorem CodeC.loop' {ι : Type} {c : Code} (F : ι → Fr) (I : ι → Prop) (μ : ι → Nat) (Fin : Ex → Fr → Prop) (step : ∀ i, I i → CodeC E m0 c (F i) (fun ex fr1 => (ex = .normal ∧ ∃ j, fr1 = F j ∧ I j ∧ μ j < μ i) ∨ (ex ≠ .normal ∧ Fin ex fr1))) : ∀ i, I i → CodeC E m0 (.loop c) (F i) Fin := by
  have key : ∀ (n : Nat) (i : ι), μ i < n → I i → ∀ (ρ : Nat → Nat) (a : Act) (w : World) (Q : Exit → Act → World → Prop), FrR (fun k => k < (F i).hp.next) ρ (F i).tm (F i).hp a w →
      (∀ ex fr1 ρ1 a1 w1, Fin ex fr1 → (∀ k, k < m0 → ρ1 k = ρ k) → FrR (fun k => k < fr1.hp.next) ρ1 fr1.tm fr1.hp a1 w1 → FR ρ ρ1 (F i).hp fr1.hp w w1 → Q ex.to a1 w1) → Code.rounds E.P c Q n a w := by
    intro n
    induction n with
    | zero => intro i h; omega
    | succ n ih =>
      intro i hi hI ρ a w Q hf hQ
      show c.wp E.P _ a w
      refine step i hI ρ a w _ hf fun ex fr1 ρ1 a1 w1 hA hm hf1 hfr => ?_
      rcases hA with ⟨rfl, j, rfl, hj, hμ⟩ | ⟨hex, hF⟩
      · exact ih j (by omega) hj _ a1 w1 Q hf1 fun ex2 fr2 ρ2 a2 w2 hF2 hm2 hf2 hfr2 => hQ ex2 fr2 ρ2 a2 w2 hF2 (fun k hk => by rw [hm2 k hk, hm k hk]) hf2 (hfr.trans hfr2)
      · rw [early_to hex]
        exact hQ ex fr1 ρ1 a1 w1 hF hm hf1 hfr
  exact fun i hI ρ a w Q hf hQ => wp_loop_rounds (μ i + 1) (key (μ i + 1) i (Nat.lt_succ_self _) hI ρ a w Q hf hQ)

theorem CallC.of_call (hE : EnvOk E) {n : Nat} {f : FuncId} {args : List Value} {hp hp1 : Hp} {ds : List Dec} {ns : List Nat} {v : Value} {pc : List Prop} (h : callR E n f args hp ds ns = some (v, hp1, pc)) (hpc : ∀ p ∈ pc, p) (hv : isDead v = false) (hns : ∀ k, k < hp.next → ns.getD k 0 = k) :
    CallC E.P f args hp v hp1 := by
  unfold callR at h
  split at h
  · rename_i out ho
    split at h
    · rename_i F hr
      simp only [Option.some.injEq, Prod.mk.injEq] at h
      obtain ⟨rfl, rfl, rfl⟩ := h
      obtain ⟨k1, hent, h1⟩ := doCall_ok hE n f args hp ds out ho
      refine ⟨hent, fun ρ w cargs hargs hH => (h1 hpc _ ρ w cargs hargs hH (fun k h1 _ h3 => by omega)).mono fun e w1 he => ?_⟩
      obtain ⟨u, rfl, ρ1, r1, r2, r3, r4⟩ := he
      obtain ⟨_, q2, q3⟩ := relab_ok hr (S := SN (fun k => k < hp.next) hp out.hp) (ρ := ρ1) (a := ⟨#[u], []⟩) (w := w1) ⟨rfl, fun t => by
        cases t with
        | zero => exact .inr r3
        | succ t => exact .inr fun _ _ => rfl, r2, rfl⟩
      refine ⟨u, _, rfl, fun k hk => by rw [hns k hk, r1 k hk], q2.heap, ?_, r4.trans q3⟩
      rcases q2.tmp 0 with h | h
      · rw [hv] at h; cases h
      · exact h
    · cases h
  · cases h
end

mutual
theorem rn_none {σ : Nat → Nat} : ∀ v, nm v = [] → rn σ v = v
  | .pointer none, _ => rfl
  | .pointer (some a), h => by simp [nm] at h
  | .slice none _ _, _ => rfl
  | .slice (some ⟨b, o, none⟩) n c, h => by simp [nm] at h
  | .slice (some ⟨b, o, some k⟩) n c, h => by simp [nm] at h
  | .func fn f c, h => by
    simp only [nm, List.append_eq_nil_iff] at h
    simp only [rn, rnA_none f h.1, rnA_none c h.2]
  | .agg cs, h => by simp only [rn, rnA_none cs h]
  | .tuple vs, h => by simp only [rn, rnA_none vs h]
  | .bool _, _ | .int _ _, _ | .float _ _, _ | .complex _ _ _, _ | .string _, _ | .map _, _ | .chan _, _ | .nilFunc, _ | .iface _ _, _ | .nilIface, _ => rfl
theorem rnA_none {σ : Nat → Nat} : ∀ a, nmA a = [] → rnA σ a = a
  | ⟨l⟩, h => by simp only [rnA, rnL_none l h]
theorem rnL_none {σ : Nat → Nat} : ∀ l, nmL l = [] → rnL σ l = l
  | [], _ => rfl
  | v :: l, h => by
    simp only [nmL, List.append_eq_nil_iff] at h
    simp only [rnL, rn_none v h.1, rnL_none l h.2]
end
theorem delB_nil : ∀ l, delB [] l = l
  | [] => rfl
  | (n, b) :: r => by simp only [delB, has, cond_false, delB_nil r]

/-- A function of numbers: it changes nothing. -/
theorem CallC.pure {P : Program} {f : FuncId} {args : List Value} {v : Value} {pc : List Prop} (hent : Enters P f) (hC : (∀ p ∈ pc, p) → CallC P f args ⟨[], 0, []⟩ v ⟨[], 0, []⟩) (ha : nmL args = []) (hv : nm v = []) (hp : Hp) (ds : List Dec) :
    CallOk P f args hp ⟨v, hp, ds, pc⟩ := by
  have h := CallC.lift hent hC [] [] (Nat.le_refl _) rfl (by simp [tellers, ha, tellers.tellB, allLt]) rfl rfl rfl trivial (hp := hp) (args := args) (rnL_none args ha).symm trivial ds
  rw [rn_none v hv] at h
  have e : hp.lay [] 0 ⟨[], 0, []⟩ [] = hp := by simp [Hp.lay, pick', layB, mapN, delB_nil, below]
  rw [e] at h
  exact h
/-- A function of numbers that makes one row. -/
theorem CallC.fresh {P : Program} {f : FuncId} {args : List Value} {b : Blk} {n : Nat} {pc : List Prop} (hent : Enters P f) (hC : (∀ p ∈ pc, p) → CallC P f args ⟨[], 0, []⟩ (.slice (some ⟨0, 0, some 1⟩) n 0) ⟨[(0, .own b 1)], 2, []⟩) (ha : nmL args = []) (hb : ∀ σ, b.rn σ = b) (hp : Hp) (ds : List Dec) :
    CallOk P f args hp ⟨.slice (some ⟨hp.next, 0, some (hp.next + 1)⟩) n 0, ⟨(hp.next, .own b (hp.next + 1)) :: delB [hp.next] hp.blks, hp.next + 2, hp.log⟩, ds, pc⟩ := by
  have h := CallC.lift hent hC [] [0] (Nat.zero_le _) rfl (by simp [tellers, ha, tellers.tellB, allLt]) rfl rfl rfl trivial (hp := hp) (args := args) (rnL_none args ha).symm trivial ds
  have e1 : ext [] 0 hp.next 0 = hp.next := by rw [ext_new (Nat.le_refl _)]; rfl
  have e2 : ext [] 0 hp.next 1 = hp.next + 1 := by rw [ext_new (Nat.zero_le _)]
  have e : hp.lay [] 0 ⟨[(0, .own b 1)], 2, []⟩ [0] = ⟨(hp.next, .own b (hp.next + 1)) :: delB [hp.next] hp.blks, hp.next + 2, hp.log⟩ := by
    have eb : below 0 [0] = [] := rfl
    simp [Hp.lay, pick', layB, mapN, has, eb, Blk.rn, e1, e2, hb]
  rw [e] at h
  simp only [rn, e1, e2] at h
  exact h
end Go.Proofs.Ytcpkieahnkfpoaa.Ev
