/- Code piece by piece, from loop to loop. -/
import Derived.Test.YtocfhiafegkfkaaGreatEvLift
import Derived.KernelRfl
namespace Go.Proofs.YtocfhiafegkfkaaGreat.Ev
open Go Go.RowKit

def flatF (E : Env) (g : TypeId → Option (Bool × List CK)) : List Field → Nat → Option (List CK)
  | [], _ => some []
  | f :: r, off => if f.name ≠ "_" ∧ f.offset = off then
      match g f.type, shp E f.type with
      | some (b, ks), some (b', sz) => if b = b' ∧ sz = ks.length then
          match flatF E g r (off + ks.length) with
          | some l => some (ks ++ l)
          | none => none
        else none
      | _, _ => none
    else none
def flat (E : Env) : Nat → TypeId → Option (Bool × List CK)
  | 0, _ => none
  | d + 1, t => match E.P.underlying t with
    | some (.int k) => some (false, [.i k])
    | some .bool => some (false, [.b])
    | some (.struct fs) => if E.P.stoodInHeld t then none else
        match flatF E (flat E d) fs.toList 0 with
        | some ks => some (true, ks)
        | none => none
    | _ => none
def mkV (b : Bool) (l : List Value) : Value := if b then .agg ⟨l⟩ else l.getD 0 undef

theorem eqC_app : ∀ {ks ks' : List CK} {xs ys : List Value} {bs : List Bool}, eqC (ks ++ ks') xs ys = some bs →
    ∃ b1 b2, bs = b1 ++ b2 ∧ eqC ks (xs.take ks.length) (ys.take ks.length) = some b1 ∧ eqC ks' (xs.drop ks.length) (ys.drop ks.length) = some b2
  | [], ks', xs, ys, bs, h => ⟨[], bs, rfl, by simp [eqC], by simpa using h⟩
  | .i k :: ks, ks', [], ys, bs, h => by simp [eqC] at h
  | .b :: ks, ks', [], ys, bs, h => by simp [eqC] at h
  | .i k :: ks, ks', x :: xs, [], bs, h => by cases x <;> simp [eqC] at h
  | .b :: ks, ks', x :: xs, [], bs, h => by cases x <;> simp [eqC] at h
  | .i k :: ks, ks', x :: xs, y :: ys, bs, h => by
    cases x <;> cases y <;> simp only [List.cons_append, eqC, reduceCtorEq] at h
    rename_i k1 x k2 y
    split at h
    · rename_i e1
      split at h
      · rename_i e2
        cases hr : eqC (ks ++ ks') xs ys with
        | none => simp [hr] at h
        | some b =>
          simp only [hr, Option.map_some, Option.some.injEq] at h
          obtain ⟨b1, b2, rfl, h1, h2⟩ := eqC_app hr
          exact ⟨(x == y) :: b1, b2, by rw [← h]; rfl, by simp [eqC, e1, e2, h1], by simpa using h2⟩
      · cases h
    · cases h
  | .b :: ks, ks', x :: xs, y :: ys, bs, h => by
    cases x <;> cases y <;> simp only [List.cons_append, eqC, reduceCtorEq] at h
    rename_i x y
    cases hr : eqC (ks ++ ks') xs ys with
    | none => simp [hr] at h
    | some b =>
      simp only [hr, Option.map_some, Option.some.injEq] at h
      obtain ⟨b1, b2, rfl, h1, h2⟩ := eqC_app hr
      exact ⟨(x == y) :: b1, b2, by rw [← h]; rfl, by simp [eqC, h1], by simpa using h2⟩
theorem andL_all : ∀ (bs : List Bool), andL bs = bs.all id
  | [] => rfl
  | [b] => by simp [andL]
  | b :: c :: bs => by rw [andL, andL_all (c :: bs)]; rfl

section
variable {E : Env}
theorem part_run {t : TypeId} {b : Bool} {sz : Nat} (h : shp E t = some (b, sz)) (cs : List Value) (off : Nat) (hl : b = false → off < cs.length) (hs : b = false → 0 < sz) (w : World) :
    (part t ⟨cs⟩ off).run E.P w = .ok (mkV b ((cs.drop off).take sz)) w := by
  obtain ⟨i, hi, rfl, hag⟩ := shp_some h
  cases b with
  | true => simp [part, hag, run_size hi, mkV]
  | false =>
    have := hl rfl
    have h2 := hs rfl
    simp [part, hag, mkV, List.getD_eq_getElem?_getD, List.getElem?_drop, List.getElem?_eq_getElem this, h2]

theorem eq_flatF {d : Nat} (ih : ∀ t b ks, flat E d t = some (b, ks) → (b = false → ks.length = 1) ∧ ∀ xs ys bs, eqC ks xs ys = some bs → ∀ w n, (Op.equalIn (d + n) t (mkV b xs) (mkV b ys)).run E.P w = .ok (bs.all id) w) (n : Nat) (cx cy : List Value) :
    ∀ (fs : List Field) (off : Nat) (ks : List CK), flatF E (flat E d) fs off = some ks → ∀ bs, eqC ks (cx.drop off) (cy.drop off) = some bs → ∀ w, (Op.eqFields (d + n) ⟨cx⟩ ⟨cy⟩ fs).run E.P w = .ok (bs.all id) w
  | [], off, ks, h, bs, hb, w => by
    simp only [flatF, Option.some.injEq] at h
    subst h
    cases hx : cx.drop off <;> cases hy : cy.drop off <;> simp only [hx, hy, eqC, Option.some.injEq, reduceCtorEq] at hb
    subst hb
    simp [Op.eqFields]
  | f :: fs, off, ks, h, bs, hb, w => by
    simp only [flatF] at h
    split at h
    · rename_i hf
      obtain ⟨hn, rfl⟩ := hf
      split at h
      · rename_i b ks1 b' sz hg hs
        split at h
        · rename_i he
          obtain ⟨rfl, rfl⟩ := he
          split at h
          · rename_i l hl
            simp only [Option.some.injEq] at h
            subst h
            obtain ⟨b1, b2, rfl, h1, h2⟩ := eqC_app hb
            obtain ⟨hone, heq⟩ := ih _ _ _ hg
            rw [List.drop_drop, List.drop_drop] at h2
            have hrest := eq_flatF ih n cx cy fs (f.offset + ks1.length) l hl b2 h2
            have hlen : ∀ {ks : List CK} {xs ys : List Value} {bs}, eqC ks xs ys = some bs → xs.length = ks.length ∧ ys.length = ks.length := fun {ks xs ys bs} h => by
              induction ks generalizing xs ys bs with
              | nil => cases xs <;> cases ys <;> simp [eqC] at h <;> exact ⟨rfl, rfl⟩
              | cons c ks ihk =>
                cases xs with
                | nil => cases c <;> simp [eqC] at h
                | cons x xs =>
                  cases ys with
                  | nil => cases c <;> cases x <;> simp [eqC] at h
                  | cons y ys =>
                    have : ∃ bs', eqC ks xs ys = some bs' := by
                      cases c <;> cases x <;> cases y <;> simp only [eqC, reduceCtorEq] at h
                      · split at h
                        · split at h
                          · cases hr : eqC ks xs ys with
                            | none => simp [hr] at h
                            | some b => exact ⟨b, rfl⟩
                          · cases h
                        · cases h
                      · cases hr : eqC ks xs ys with
                        | none => simp [hr] at h
                        | some b => exact ⟨b, rfl⟩
                    obtain ⟨bs', h'⟩ := this
                    obtain ⟨q1, q2⟩ := ihk h'
                    simp [q1, q2]
            obtain ⟨l1, l2⟩ := hlen h1
            simp only [List.length_take, List.length_drop] at l1 l2
            have p1 := part_run hs cx f.offset (fun e => by have := hone e; omega) (fun e => by have := hone e; omega) w
            have p2 := part_run hs cy f.offset (fun e => by have := hone e; omega) (fun e => by have := hone e; omega) w
            have p3 := heq _ _ _ h1 w n
            simp only [Op.eqFields, hn, ne_eq, not_false_eq_true, if_true, Sem.run_bind, p1, p2, Result.andThen_ok, p3]
            cases hb1 : b1.all id
            · simp [hb1]
            · simp [hb1, hrest w]
          · cases h
        · cases h
      · cases h
    · cases h
theorem eq_flat : ∀ (d : Nat) (t : TypeId) (b : Bool) (ks : List CK), flat E d t = some (b, ks) → (b = false → ks.length = 1) ∧ ∀ xs ys bs, eqC ks xs ys = some bs → ∀ w n, (Op.equalIn (d + n) t (mkV b xs) (mkV b ys)).run E.P w = .ok (bs.all id) w
  | 0, t, b, ks, h => by cases h
  | d + 1, t, b, ks, h => by
    simp only [flat] at h
    split at h
    · rename_i k hu
      simp only [Option.some.injEq, Prod.mk.injEq] at h
      obtain ⟨rfl, rfl⟩ := h
      refine ⟨fun _ => rfl, fun xs ys bs hb w n => ?_⟩
      match xs, ys, hb with
      | [], _, hb => simp [eqC] at hb
      | [x], [], hb => cases x <;> simp [eqC] at hb
      | [x], [y], hb =>
        cases x <;> cases y <;> simp only [eqC, reduceCtorEq] at hb
        rename_i k1 x k2 y
        split at hb
        · rename_i e1
          split at hb
          · rename_i e2
            simp only [Option.map_some, Option.some.injEq] at hb
            subst hb
            rw [Nat.add_right_comm]
            rw [e1, e2]
            have := run_equalIn_int (P := E.P) w (d + n) t k k x y hu
            simpa [mkV] using this
          · cases hb
        · cases hb
      | [x], y :: y' :: r, hb => cases x <;> cases y <;> simp [eqC] at hb
      | x :: x' :: r, [], hb => cases x <;> simp [eqC] at hb
      | x :: x' :: r, [y], hb => cases x <;> cases y <;> simp [eqC] at hb
      | x :: x' :: r, y :: y' :: r', hb => cases x <;> cases y <;> simp [eqC] at hb
    · rename_i hu
      simp only [Option.some.injEq, Prod.mk.injEq] at h
      obtain ⟨rfl, rfl⟩ := h
      refine ⟨fun _ => rfl, fun xs ys bs hb w n => ?_⟩
      match xs, ys, hb with
      | [], _, hb => simp [eqC] at hb
      | [x], [], hb => cases x <;> simp [eqC] at hb
      | [x], [y], hb =>
        cases x <;> cases y <;> simp only [eqC, reduceCtorEq] at hb
        simp only [Option.map_some, Option.some.injEq] at hb
        subst hb
        rw [Nat.add_right_comm]
        simp [mkV, run_equalIn_bool' w (d + n) t _ _ hu]
      | [x], y :: y' :: r, hb => cases x <;> cases y <;> simp [eqC] at hb
      | x :: x' :: r, [], hb => cases x <;> simp [eqC] at hb
      | x :: x' :: r, [y], hb => cases x <;> cases y <;> simp [eqC] at hb
      | x :: x' :: r, y :: y' :: r', hb => cases x <;> cases y <;> simp [eqC] at hb
    · rename_i fs hu
      split at h
      · cases h
      · rename_i hst
        split at h
        · rename_i ks' hf
          simp only [Option.some.injEq, Prod.mk.injEq] at h
          obtain ⟨rfl, rfl⟩ := h
          refine ⟨(fun e => nomatch e), fun xs ys bs hb w n => ?_⟩
          have hfs : E.P.fieldsOf t = fs := by simp [Program.fieldsOf, hu]
          rw [Nat.add_right_comm]
          simp only [mkV, if_true]
          rw [run_equalIn_agg w (d + n) t ⟨xs⟩ ⟨ys⟩ (by rw [hfs]; exact hu) (by simpa using hst), hfs]
          exact eq_flatF (fun t b ks h => eq_flat d t b ks h) n xs ys fs.toList 0 ks' hf bs (by simpa using hb) w
        · cases h
    · cases h
/-- A table of types that are compared so. -/
theorem eqsOk_of (h : ∀ t ks, E.eqs t = some ks → flat E 8 t = some (true, ks) ∧ E.P.eqGuardType E.P.depth t = false) : EqsOk E := by
  intro t ks ht xs ys bs hb x y w
  obtain ⟨h1, h2⟩ := h t ks ht
  have he := (eq_flat 8 t true ks h1).2 xs ys bs hb w 9992
  simp only [mkV, if_true] at he
  refine ⟨run_eqGuard_agg w .eql t x y ⟨xs⟩ ⟨ys⟩ h2, run_eqGuard_agg w .neq t x y ⟨xs⟩ ⟨ys⟩ h2, ?_, ?_⟩
  · rw [run_eql_struct, he, andL_all]; rfl
  · rw [run_neq_struct, he, andL_all]; rfl
end
end Go.Proofs.YtocfhiafegkfkaaGreat.Ev
namespace Go.Proofs.YtocfhiafegkfkaaGreat.Ev
open Go Go.RowKit

def dead : Value := .string ⟨#[]⟩
def putL (t : Nat) (v : Value) : List (Nat × Value) → Value
  | [] => v
  | (u, x) :: r => bif Nat.beq u t then x else putL t v r
def mkTm (l : List (Nat × Value)) : Nat → Nat → List Value
  | 0, _ => []
  | n + 1, t => putL t dead l :: mkTm l n (t + 1)
/-- A frame of n temporaries, of which these are known. -/
def mkFr (n : Nat) (l : List (Nat × Value)) (blks : List (Nat × Blk)) (next : Nat) (log : List Nat) (ds : List Dec) : Fr := ⟨mkTm l n 0, ⟨blks, next, log⟩, ds, []⟩

/-- A piece of code, and what is kept of its end. -/
def run (E : Env) (n : Nat) (c : Code) (ns live : List Nat) (m0 : Nat) (ds : List Dec) (fr : Fr) : Option (Ex × Fr × List Prop) :=
  match doCode E (doCall E n) c fr with
  | some (ex, G) => match relab ns live m0 ds G with
    | some F => some (ex, F, G.pc)
    | none => none
  | none => none
/-- A call, and what is kept of its end. -/
def callR (E : Env) (n : Nat) (f : FuncId) (args : List Value) (hp : Hp) (ds : List Dec) (ns : List Nat) : Option (Value × Hp × List Prop) :=
  match doCall E n f args hp ds with
  | some out => match relab ns [0] 0 [] ⟨[out.v], out.hp, [], []⟩ with
    | some F => some (F.tm.getD 0 undef, F.hp, out.pc)
    | none => none
  | none => none

section
variable {E : Env} {m0 : Nat}
theorem CodeC.of_run (hE : EnvOk E) {n : Nat} {c : Code} {ns live : List Nat} {m : Nat} {ds : List Dec} {fr F : Fr} {ex : Ex} {pc : List Prop} {Fin : Ex → Fr → Prop} (h : run E n c ns live m ds fr = some (ex, F, pc)) (hpc : ∀ p ∈ pc, p) (hm : m0 ≤ fr.hp.next) (hns : ∀ k, k < m0 → ns.getD k 0 = k) (hF : Fin ex F) : CodeC E m0 c fr Fin := by
  unfold run at h
  split at h
  · rename_i ex' G hG
    split at h
    · rename_i F' hr
      simp only [Option.some.injEq, Prod.mk.injEq] at h
      obtain ⟨rfl, rfl, rfl⟩ := h
      obtain ⟨k1, _, h1⟩ := doCode_sound hE.mixed hE.eqs (doCall_ok hE n) c fr _ _ hG
      refine fun ρ a w Q hf hQ => h1 _ ρ a w Q hf (fun k h1 _ h3 => by omega) hpc fun a1 w1 haft => ?_
      obtain ⟨ρ1, r1, r2, r3⟩ := haft
      obtain ⟨_, q2, q3⟩ := relab_ok hr r2
      exact hQ _ F' _ a1 w1 hF (fun k hk => by rw [hns k hk, r1 k (by omega)]) q2 (r3.trans q3)
    · cases h
  · cases h
theorem CodeC.loop' {ι : Type} {c : Code} (F : ι → Fr) (I : ι → Prop) (μ : ι → Nat) (Fin : Ex → Fr → Prop) (step : ∀ i, I i → CodeC E m0 c (F i) (fun ex fr1 => (ex = .normal ∧ ∃ j, fr1 = F j ∧ I j ∧ μ j < μ i) ∨ (ex ≠ .normal ∧ Fin ex fr1))) : ∀ i, I i → CodeC E m0 (.loop c) (F i) Fin := by
  have key : ∀ (n : Nat) (i : ι), μ i < n → I i → ∀ (ρ : Nat → Nat) (a : Act) (w : World) (Q : Exit → Act → World → Prop), FrR (fun k => k < (F i).hp.next) ρ (F i).tm (F i).hp a w →
      (∀ ex fr1 ρ1 a1 w1, Fin ex fr1 → (∀ k, k < m0 → ρ1 k = ρ k) → FrR (fun k => k < fr1.hp.next) ρ1 fr1.tm fr1.hp a1 w1 → FR ρ ρ1 (F i).hp fr1.hp w w1 → Q ex.to a1 w1) → Code.rounds E.P c Q n a w := by
    intro n
    induction n with
    | zero => intro i h; omega
    | succ n ih =>
      intro i hi hI ρ a w Q hf hQ
      show c.wp E.P _ a w
      refine step i hI ρ a w _ hf fun ex fr1 ρ1 a1 w1 hA hm hf1 hfr => ?_
      rcases hA with ⟨rfl, j, rfl, hj, hμ⟩ | ⟨hex, hF⟩
      · exact ih j (by omega) hj _ a1 w1 Q hf1 fun ex2 fr2 ρ2 a2 w2 hF2 hm2 hf2 hfr2 => hQ ex2 fr2 ρ2 a2 w2 hF2 (fun k hk => by rw [hm2 k hk, hm k hk]) hf2 (hfr.trans hfr2)
      · rw [early_to hex]
        exact hQ ex fr1 ρ1 a1 w1 hF hm hf1 hfr
  exact fun i hI ρ a w Q hf hQ => wp_loop_rounds (μ i + 1) (key (μ i + 1) i (Nat.lt_succ_self _) hI ρ a w Q hf hQ)

theorem CallC.of_call (hE : EnvOk E) {n : Nat} {f : FuncId} {args : List Value} {hp hp1 : Hp} {ds : List Dec} {ns : List Nat} {v : Value} {pc : List Prop} (h : callR E n f args hp ds ns = some (v, hp1, pc)) (hpc : ∀ p ∈ pc, p) (hv : isDead v = false) (hns : ∀ k, k < hp.next → ns.getD k 0 = k) :
    CallC E.P f args hp v hp1 := by
  unfold callR at h
  split at h
  · rename_i out ho
    split at h
    · rename_i F hr
      simp only [Option.some.injEq, Prod.mk.injEq] at h
      obtain ⟨rfl, rfl, rfl⟩ := h
      obtain ⟨k1, hent, h1⟩ := doCall_ok hE n f args hp ds out ho
      refine ⟨hent, fun ρ w cargs hargs hH => (h1 hpc _ ρ w cargs hargs hH (fun k h1 _ h3 => by omega)).mono fun e w1 he => ?_⟩
      obtain ⟨u, rfl, ρ1, r1, r2, r3, r4⟩ := he
      obtain ⟨_, q2, q3⟩ := relab_ok hr (S := SN (fun k => k < hp.next) hp out.hp) (ρ := ρ1) (a := ⟨#[u], []⟩) (w := w1) ⟨rfl, fun t => by
        cases t with
        | zero => exact .inr r3
        | succ t => exact .inr fun _ _ => rfl, r2, rfl⟩
      refine ⟨u, _, rfl, fun k hk => by rw [hns k hk, r1 k hk], q2.heap, ?_, r4.trans q3⟩
      rcases q2.tmp 0 with h | h
      · rw [hv] at h; cases h
      · exact h
    · cases h
  · cases h
end

mutual
theorem rn_none {σ : Nat → Nat} : ∀ v, nm v = [] → rn σ v = v
  | .pointer none, _ => rfl
  | .pointer (some a), h => by simp [nm] at h
  | .slice none _ _, _ => rfl
  | .slice (some ⟨b, o, none⟩) n c, h => by simp [nm] at h
  | .slice (some ⟨b, o, some k⟩) n c, h => by simp [nm] at h
  | .iface t v, h => by
    simp only [nm] at h
    simp only [rn, rn_none v h]
  | .func fn f c, h => by
    simp only [nm, List.append_eq_nil_iff] at h
    simp only [rn, rnA_none f h.1, rnA_none c h.2]
  | .agg cs, h => by simp only [rn, rnA_none cs h]
  | .tuple vs, h => by simp only [rn, rnA_none vs h]
  | .bool _, _ | .int _ _, _ | .float _ _, _ | .complex _ _ _, _ | .string _, _ | .map _, _ | .chan _, _ | .nilFunc, _ | .nilIface, _ => rfl
theorem rnA_none {σ : Nat → Nat} : ∀ a, nmA a = [] → rnA σ a = a
  | ⟨l⟩, h => by simp only [rnA, rnL_none l h]
theorem rnL_none {σ : Nat → Nat} : ∀ l, nmL l = [] → rnL σ l = l
  | [], _ => rfl
  | v :: l, h => by
    simp only [nmL, List.append_eq_nil_iff] at h
    simp only [rnL, rn_none v h.1, rnL_none l h.2]
end
theorem delB_nil : ∀ l, delB [] l = l
  | [] => rfl
  | (n, b) :: r => by simp only [delB, has, cond_false, delB_nil r]

/-- A function of numbers: it changes nothing. -/
theorem CallC.pure {P : Program} {f : FuncId} {args : List Value} {v : Value} {pc : List Prop} (hent : Enters P f) (hC : (∀ p ∈ pc, p) → CallC P f args ⟨[], 0, []⟩ v ⟨[], 0, []⟩) (ha : nmL args = []) (hv : nm v = []) (hp : Hp) (ds : List Dec) :
    CallOk P f args hp ⟨v, hp, ds, pc⟩ := by
  have h := CallC.lift hent hC [] [] (Nat.le_refl _) rfl (by simp [tellers, ha, tellers.tellB, allLt]) rfl rfl rfl trivial (hp := hp) (args := args) (rnL_none args ha).symm trivial ds
  rw [rn_none v hv] at h
  have e : hp.lay [] 0 ⟨[], 0, []⟩ [] = hp := by simp [Hp.lay, pick', layB, mapN, delB_nil, below]
  rw [e] at h
  exact h
/-- A function of numbers that makes one row. -/
theorem CallC.fresh {P : Program} {f : FuncId} {args : List Value} {b : Blk} {n : Nat} {pc : List Prop} (hent : Enters P f) (hC : (∀ p ∈ pc, p) → CallC P f args ⟨[], 0, []⟩ (.slice (some ⟨0, 0, some 1⟩) n 0) ⟨[(0, .own b 1)], 2, []⟩) (ha : nmL args = []) (hb : ∀ σ, b.rn σ = b) (hp : Hp) (ds : List Dec) :
    CallOk P f args hp ⟨.slice (some ⟨hp.next, 0, some (hp.next + 1)⟩) n 0, ⟨(hp.next, .own b (hp.next + 1)) :: delB [hp.next] hp.blks, hp.next + 2, hp.log⟩, ds, pc⟩ := by
  have h := CallC.lift hent hC [] [0] (Nat.zero_le _) rfl (by simp [tellers, ha, tellers.tellB, allLt]) rfl rfl rfl trivial (hp := hp) (args := args) (rnL_none args ha).symm trivial ds
  have e1 : ext [] 0 hp.next 0 = hp.next := by rw [ext_new (Nat.le_refl _)]; rfl
  have e2 : ext [] 0 hp.next 1 = hp.next + 1 := by rw [ext_new (Nat.zero_le _)]
  have e : hp.lay [] 0 ⟨[(0, .own b 1)], 2, []⟩ [0] = ⟨(hp.next, .own b (hp.next + 1)) :: delB [hp.next] hp.blks, hp.next + 2, hp.log⟩ := by
    have eb : below 0 [0] = [] := rfl
    simp [Hp.lay, pick', layB, mapN, has, eb, Blk.rn, e1, e2, hb]
  rw [e] at h
  simp only [rn, e1, e2] at h
  exact h
end Go.Proofs.YtocfhiafegkfkaaGreat.Ev
namespace Go.Proofs.YtocfhiafegkfkaaGreat.Ev
open Go Go.RowKit

inductive Kt where
  | code (c : Code)
  | blk (id : Nat)

/-- What holds behind the rest. -/
def Hd (P : Program) (Q : Exit → Act → World → Prop) : List Kt → Exit → Act → World → Prop
  | [] => Q
  | .code c :: K => Exit.then (c.wp P (Hd P Q K)) (Hd P Q K)
  | .blk id :: K => Exit.inBlock id (Hd P Q K)

/-- Runs until a loop, or to the end. -/
def exec (E : Env) (cf : CallF) : Nat → Ex → List Kt → Fr → Option (Ex × List Kt × Fr)
  | 0, _, _, _ => none
  | _ + 1, ex, [], fr => some (ex, [], fr)
  | f + 1, .normal, .code (.seq a b) :: K, fr => exec E cf f .normal (.code a :: .code b :: K) fr
  | f + 1, .normal, .code (.block id c) :: K, fr => exec E cf f .normal (.code c :: .blk id :: K) fr
  | _ + 1, .normal, .code (.loop c) :: K, fr => some (.normal, .code (.loop c) :: K, fr)
  | f + 1, .normal, .code (.cond (.tmp t) x y) :: K, fr => match fr.tm.getD t undef, fr.ds with
    | .bool b, d :: ds => match decB b d with
      | some (true, pc) => exec E cf f .normal (.code x :: K) ⟨fr.tm, fr.hp, ds, fr.pc ++ pc⟩
      | some (false, pc) => exec E cf f .normal (.code y :: K) ⟨fr.tm, fr.hp, ds, fr.pc ++ pc⟩
      | none => none
    | _, _ => none
  | f + 1, .normal, .code c :: K, fr => match doCode E cf c fr with
    | some (ex, fr') => exec E cf f ex K fr'
    | none => none
  | f + 1, .normal, .blk _ :: K, fr => exec E cf f .normal K fr
  | f + 1, .exit j, .code _ :: K, fr => exec E cf f (.exit j) K fr
  | f + 1, .exit j, .blk id :: K, fr => bif Nat.beq j id then exec E cf f .normal K fr else exec E cf f (.exit j) K fr
  | f + 1, .ret, _ :: K, fr => exec E cf f .ret K fr

/-- What is left to do, from a frame, ends in one of those that Fin lets in. -/
def KC (E : Env) (m0 : Nat) (ex : Ex) (K : List Kt) (fr : Fr) (Fin : Ex → Fr → Prop) : Prop :=
  ∀ (ρ : Nat → Nat) (a : Act) (w : World) (Q : Exit → Act → World → Prop), FrR (fun k => k < fr.hp.next) ρ fr.tm fr.hp a w →
    (∀ ex fr1 ρ1 a1 w1, Fin ex fr1 → (∀ k, k < m0 → ρ1 k = ρ k) → FrR (fun k => k < fr1.hp.next) ρ1 fr1.tm fr1.hp a1 w1 → FR ρ ρ1 fr.hp fr1.hp w w1 → Q ex.to a1 w1) → Hd E.P Q K ex.to a w

section
variable {E : Env} {m0 : Nat}
theorem KC.whole {c : Code} {fr : Fr} {Fin : Ex → Fr → Prop} (h : KC E m0 .normal [.code c] fr Fin) : CodeC E m0 c fr Fin :=
  fun ρ a w Q hf hQ => Code.wp_mono (fun _ _ _ q => q) (h ρ a w Q hf hQ)
theorem KC.done {ex : Ex} {fr : Fr} {Fin : Ex → Fr → Prop} (h : Fin ex fr) : KC E m0 ex [] fr Fin :=
  fun ρ a w _ hf hQ => hQ ex fr ρ a w h (fun _ _ => rfl) hf (FR.refl _ _ _)
theorem KC.step {c : Code} {K : List Kt} {fr fr1 : Fr} {ex : Ex} {Fin : Ex → Fr → Prop} (h : CodeOk E c fr ex fr1) (hpc : ∀ p ∈ fr1.pc, p) (hm : m0 ≤ fr.hp.next) (hK : KC E m0 ex K fr1 Fin) : KC E m0 .normal (.code c :: K) fr Fin := by
  obtain ⟨k1, _, h1⟩ := h
  refine fun ρ a w Q hf hQ => h1 _ ρ a w _ hf (fun k h1 _ h3 => by omega) hpc fun a1 w1 haft => ?_
  obtain ⟨ρ1, r1, r2, r3⟩ := haft
  have r2' := r2.up (S1 := fun k => k < fr1.hp.next) fun k hk => by
    have := k1.le
    rcases hk with hk | hk
    · omega
    · exact hk.2
  exact hK ρ1 a1 w1 Q r2' fun ex2 fr2 ρ2 a2 w2 hF hm2 hf2 hfr2 => hQ ex2 fr2 ρ2 a2 w2 hF (fun k hk => by rw [hm2 k hk, r1 k (by omega)]) hf2 (r3.trans hfr2)
theorem CodeC.then {c : Code} {K : List Kt} {fr : Fr} {Mid Fin : Ex → Fr → Prop} (h : CodeC E m0 c fr Mid) (hK : ∀ ex fr1, Mid ex fr1 → KC E m0 ex K fr1 Fin) : KC E m0 .normal (.code c :: K) fr Fin :=
  fun ρ a w Q hf hQ => h ρ a w _ hf fun ex fr1 ρ1 a1 w1 hM hm hf1 hfr => hK ex fr1 hM ρ1 a1 w1 Q hf1 fun ex2 fr2 ρ2 a2 w2 hF hm2 hf2 hfr2 => hQ ex2 fr2 ρ2 a2 w2 hF (fun k hk => by rw [hm2 k hk, hm k hk]) hf2 (hfr.trans hfr2)
theorem KC.move {ex : Ex} {K : List Kt} {G F : Fr} {Fin : Ex → Fr → Prop} {ns live : List Nat} {m : Nat} {ds : List Dec} (hC : KC E m0 ex K F Fin) (h : relab ns live m ds G = some F) (hns : ∀ k, k < m0 → ns.getD k 0 = k) : KC E m0 ex K G Fin := by
  intro ρ a w Q hf hQ
  obtain ⟨_, h2, h3⟩ := relab_ok h hf
  exact hC _ a w Q h2 fun ex fr1 ρ1 a1 w1 hF hm hf1 hfr => hQ ex fr1 ρ1 a1 w1 hF (fun k hk => by rw [hm k hk, hns k hk]) hf1 (h3.trans hfr)

theorem exec_sound (hE : EnvOk E) (n : Nat) : ∀ (f : Nat) (ex : Ex) (K : List Kt) (fr : Fr) (ex1 : Ex) (K1 : List Kt) (fr1 : Fr), exec E (doCall E n) f ex K fr = some (ex1, K1, fr1) →
    (∀ p ∈ fr.pc, p ∈ fr1.pc) ∧ ∀ (Fin : Ex → Fr → Prop), (∀ p ∈ fr1.pc, p) → m0 ≤ fr.hp.next → KC E m0 ex1 K1 fr1 Fin → KC E m0 ex K fr Fin := by
  intro f
  induction f with
  | zero => intro ex K fr ex1 K1 fr1 h; simp [exec] at h
  | succ f ih =>
    intro ex K fr ex1 K1 fr1 h
    have plain : ∀ (c : Code) (K : List Kt), (match doCode E (doCall E n) c fr with | some (ex, fr') => exec E (doCall E n) f ex K fr' | none => none) = some (ex1, K1, fr1) →
        (∀ p ∈ fr.pc, p ∈ fr1.pc) ∧ ∀ (Fin : Ex → Fr → Prop), (∀ p ∈ fr1.pc, p) → m0 ≤ fr.hp.next → KC E m0 ex1 K1 fr1 Fin → KC E m0 .normal (.code c :: K) fr Fin := fun c K h => by
      split at h
      · rename_i ex2 fr2 hc
        have hok := doCode_sound hE.mixed hE.eqs (doCall_ok hE n) c fr _ _ hc
        obtain ⟨i1, i2⟩ := ih _ _ _ _ _ _ h
        exact ⟨fun p hp => i1 p (hok.2.1 p hp), fun Fin hpc hm hC => KC.step hok (fun p hp => hpc p (i1 p hp)) hm (i2 Fin hpc (Nat.le_trans hm hok.1.le) hC)⟩
      · cases h
    cases K with
    | nil =>
      simp only [exec, Option.some.injEq, Prod.mk.injEq] at h
      obtain ⟨rfl, rfl, rfl⟩ := h
      exact ⟨fun _ hp => hp, fun _ _ _ hC => hC⟩
    | cons k K =>
      cases ex with
      | normal =>
        cases k with
        | blk id =>
          simp only [exec] at h
          obtain ⟨i1, i2⟩ := ih _ _ _ _ _ _ h
          exact ⟨i1, fun Fin hpc hm hC => i2 Fin hpc hm hC⟩
        | code c =>
          cases c with
          | seq x y =>
            simp only [exec] at h
            obtain ⟨i1, i2⟩ := ih _ _ _ _ _ _ h
            exact ⟨i1, fun Fin hpc hm hC ρ a w Q hf hQ => wp_seq (i2 Fin hpc hm hC ρ a w Q hf hQ)⟩
          | block id c =>
            simp only [exec] at h
            obtain ⟨i1, i2⟩ := ih _ _ _ _ _ _ h
            exact ⟨i1, fun Fin hpc hm hC ρ a w Q hf hQ => wp_block (Code.wp_mono (fun e a w q => by cases e <;> exact q) (i2 Fin hpc hm hC ρ a w Q hf hQ))⟩
          | loop c =>
            simp only [exec, Option.some.injEq, Prod.mk.injEq] at h
            obtain ⟨rfl, rfl, rfl⟩ := h
            exact ⟨fun _ hp => hp, fun _ _ _ hC => hC⟩
          | cond o x y =>
            cases o with
            | tmp t =>
              simp only [exec] at h
              split at h
              · rename_i b d ds ht hds
                have hev : ∀ {S : Nat → Prop} {ρ : Nat → Nat} {a : Act} {w : World}, FrR S ρ fr.tm fr.hp a w → a.eval (.tmp t) = .bool b := fun {S ρ a w} hf => by
                  have := hf.tmp t
                  rw [ht] at this
                  exact this.bool
                split at h
                · rename_i pc hd
                  obtain ⟨i1, i2⟩ := ih _ _ _ _ _ _ h
                  refine ⟨fun p hp => i1 p (List.mem_append.2 (.inl hp)), fun Fin hpc hm hC ρ a w Q hf hQ => wp_cond_true ?_ (i2 Fin hpc hm hC ρ a w Q hf hQ)⟩
                  rw [hev hf, decB_some hd (fun p hp => hpc p (i1 p (List.mem_append.2 (.inr hp))))]
                · rename_i pc hd
                  obtain ⟨i1, i2⟩ := ih _ _ _ _ _ _ h
                  refine ⟨fun p hp => i1 p (List.mem_append.2 (.inl hp)), fun Fin hpc hm hC ρ a w Q hf hQ => wp_cond_false ?_ (i2 Fin hpc hm hC ρ a w Q hf hQ)⟩
                  rw [hev hf, decB_some hd (fun p hp => hpc p (i1 p (List.mem_append.2 (.inr hp))))]
                · cases h
              · cases h
            | _ => exact plain _ K h
          | _ => exact plain _ K h
      | exit j =>
        cases k with
        | blk id =>
          simp only [exec] at h
          cases hj : Nat.beq j id
          · rw [hj] at h
            obtain ⟨i1, i2⟩ := ih _ _ _ _ _ _ h
            refine ⟨i1, fun Fin hpc hm hC ρ a w Q hf hQ => ?_⟩
            show if j = id then _ else _
            rw [if_neg (bne_nat hj)]
            exact i2 Fin hpc hm hC ρ a w Q hf hQ
          · rw [hj] at h
            obtain ⟨i1, i2⟩ := ih _ _ _ _ _ _ h
            refine ⟨i1, fun Fin hpc hm hC ρ a w Q hf hQ => ?_⟩
            show if j = id then _ else _
            rw [if_pos (beq_nat hj)]
            exact i2 Fin hpc hm hC ρ a w Q hf hQ
        | code c =>
          simp only [exec] at h
          obtain ⟨i1, i2⟩ := ih _ _ _ _ _ _ h
          exact ⟨i1, fun Fin hpc hm hC => i2 Fin hpc hm hC⟩
      | ret =>
        simp only [exec] at h
        obtain ⟨i1, i2⟩ := ih _ _ _ _ _ _ h
        refine ⟨i1, fun Fin hpc hm hC => ?_⟩
        cases k with
        | blk id => exact i2 Fin hpc hm hC
        | code c => exact i2 Fin hpc hm hC

/-- From a point to the next loop, or to the end; and what is kept of the frame there. -/
def execR (E : Env) (n : Nat) (ex : Ex) (K : List Kt) (ns live : List Nat) (m0 : Nat) (ds : List Dec) (fr : Fr) : Option (Ex × List Kt × Fr × List Prop) :=
  match exec E (doCall E n) 500 ex K fr with
  | some (ex1, K1, G) => match relab ns live m0 ds G with
    | some F => some (ex1, K1, F, G.pc)
    | none => none
  | none => none
theorem KC.of_exec (hE : EnvOk E) {n : Nat} {ex ex1 : Ex} {K K1 : List Kt} {ns live : List Nat} {m : Nat} {ds : List Dec} {fr F : Fr} {pc : List Prop} {Fin : Ex → Fr → Prop} (h : execR E n ex K ns live m ds fr = some (ex1, K1, F, pc)) (hpc : ∀ p ∈ pc, p) (hm : m0 ≤ fr.hp.next) (hns : ∀ k, k < m0 → ns.getD k 0 = k)
    (hK : KC E m0 ex1 K1 F Fin) : KC E m0 ex K fr Fin := by
  unfold execR at h
  split at h
  · rename_i ex' K' G hG
    split at h
    · rename_i F' hr
      simp only [Option.some.injEq, Prod.mk.injEq] at h
      obtain ⟨rfl, rfl, rfl, rfl⟩ := h
      exact (exec_sound hE n _ _ _ _ _ _ _ hG).2 Fin hpc hm (hK.move hr hns)
    · cases h
  · cases h
/-- A loop, and what comes behind it. -/
theorem KC.loop {ι : Type} {c : Code} {K : List Kt} {Fin : Ex → Fr → Prop} (F : ι → Fr) (I : ι → Prop) (μ : ι → Nat) (Lv : Ex → Fr → Prop)
    (step : ∀ i, I i → CodeC E m0 c (F i) (fun ex fr1 => (ex = .normal ∧ ∃ j, fr1 = F j ∧ I j ∧ μ j < μ i) ∨ (ex ≠ .normal ∧ Lv ex fr1))) (hK : ∀ ex fr1, Lv ex fr1 → KC E m0 ex K fr1 Fin) (i : ι) (hi : I i) : KC E m0 .normal (.code (.loop c) :: K) (F i) Fin :=
  CodeC.then (CodeC.loop' F I μ Lv step i hi) hK
end

def allP : List Prop → Prop
  | [] => True
  | p :: r => p ∧ allP r
theorem pcs_of : ∀ {l : List Prop}, allP l → ∀ p ∈ l, p
  | [], _, p, h => by simp at h
  | q :: r, h, p, hp => by
    rcases List.mem_cons.1 hp with rfl | hp
    · exact h.1
    · exact pcs_of h.2 p hp
/-- A piece of a body, by its place. -/
def piece : List Nat → Code → Code
  | [], c => c
  | 0 :: r, .seq a _ => piece r a
  | 1 :: r, .seq _ b => piece r b
  | 0 :: r, .block _ c => piece r c
  | 0 :: r, .loop c => piece r c
  | 0 :: r, .cond _ a _ => piece r a
  | 1 :: r, .cond _ _ b => piece r b
  | _, _ => .skip
def bd (fn : Func) (p : List Nat) : Code := piece p (fn.body.getD .skip)
theorem CallC.of_body {E : Env} {f : FuncId} {fn : Func} {args : List Value} {hp hp1 : Hp} {v : Value} {ds : List Dec} (k : Nat) (hk : fn.ntmps - args.length = k) (hfn : E.P.funcs[f]? = some fn) (hname : (fn.name == "runtime.NumGoroutine") = false) (hb : fn.body = some (bd fn []))
    (h : KC E hp.next .normal [.code (bd fn [])] ⟨args ++ List.replicate k undef, hp, ds, []⟩ (Ends E fn hp.next v hp1)) : CallC E.P f args hp v hp1 := by
  subst hk
  exact CallC.of_code hfn hname hb (KC.whole h)
end Go.Proofs.YtocfhiafegkfkaaGreat.Ev
