/- Operations, guarded and not, and rows of them do what the evaluator says. -/
import Derived.Test.YtcpkieahnkfpoaaEvAppend2
import Derived.LoopN
namespace Go.Proofs.Ytcpkieahnkfpoaa.Ev
open Go Go.RowKit

section
variable {E : Env} {S : Nat → Prop} {ρ : Nat → Nat} {hp : Hp} {w : World}

theorem aappend_keep {t : TypeId} {x y : Value} {ds : List Dec} {out : Out} (h : aappend E t x y hp ds = some out) : Keep hp out.hp := by
  unfold aappend at h
  split at h
  · rename_i e sz hs
    split at h
    · rename_i kn hkn
      cases hks : Nat.beq kn.2.length sz
      · simp only [hks, cond_false, reduceCtorEq] at h
      · simp only [hks, cond_true] at h
        split at h
        · split at h
          · rename_i zc hzc
            cases hzl : Nat.beq zc.length sz
            · simp only [hzl, Bool.not_false, cond_true, reduceCtorEq] at h
            · simp only [hzl, Bool.not_true, cond_false] at h
              split at h
              · rename_i ns len b pcb s m b' pcs lit hb hsrc
                split at h
                · rename_i b2 hcat
                  cases hck : (!(has s ns) && (lit || !(ns.isEmpty)) && Nat.beq b.esz sz && Nat.beq b'.esz sz && Nat.blt 0 sz)
                  · simp only [hck, cond_false, reduceCtorEq] at h
                  · simp only [hck, cond_true, Option.some.injEq] at h
                    subst h
                    refine ⟨by simp, fun k hk hl => List.mem_append.2 (.inr hl), fun k hk hl => ?_⟩
                    simp only [Hp.get, lookB, lookB_del]
                    rw [show Nat.beq hp.next k = false from by
                      cases hq : Nat.beq hp.next k
                      · rfl
                      · have := beq_nat hq; omega]
                    simp only [cond_false]
                    rw [if_neg (fun hh => hl (List.mem_append.2 (.inl (has_iff.1 hh))))]
                · cases h
              · cases h
          · cases h
        · cases h
    · cases h
  · cases h
theorem acopy_keep {t : TypeId} {d dn s so sn : Nat} {ds : List Dec} {out : Out} (h : acopy E t d dn s so sn hp ds = some out) : Keep hp out.hp := by
  unfold acopy at h
  split at h
  · split at h
    · split at h
      · split at h
        · obtain rfl := Option.some.inj h; exact Keep.set _ _ _
        · cases h
      · cases h
    · cases h
  · cases h
theorem abuiltin_keep {b : Builtin} {ats : List TypeId} {args : List Value} {ds : List Dec} {out : Out} (h : abuiltin E b ats args hp ds = some out) : Keep hp out.hp := by
  unfold abuiltin at h
  split at h
  · split at h
    · obtain rfl := Option.some.inj h; exact Keep.refl _
    · cases h
  · obtain rfl := Option.some.inj h; exact Keep.refl _
  · obtain rfl := Option.some.inj h; exact Keep.refl _
  · exact acopy_keep h
  · split at h
    · obtain rfl := Option.some.inj h; exact Keep.refl _
    · cases h
  · rename_i t t' _ _ _ _
    cases hb : Nat.beq t t'
    · simp only [hb, cond_false, reduceCtorEq] at h
    · simp only [hb, cond_true] at h
      split at h
      · obtain rfl := Option.some.inj h; exact Keep.refl _
      · cases h
  · rename_i t t' _ _ _
    cases hb : Nat.beq t t'
    · simp only [hb, cond_false, reduceCtorEq] at h
    · simp only [hb, cond_true] at h
      exact aappend_keep h
  · cases h

theorem abuiltin_sound {b : Builtin} {ats : List TypeId} {args cargs : List Value} {ds : List Dec} {out : Out} (h : abuiltin E b ats args hp ds = some out) (hpc : ∀ p ∈ out.pc, p)
    (hv : VRL S ρ args cargs) (hH : HR S ρ hp w) (hF : NF S hp out.hp) (type : TypeId) (consts : Array Bool) :
    ∃ u w1, (builtin b ⟨ats⟩ type consts ⟨cargs⟩).run E.P w = .ok (.value u) w1 ∧ Res S ρ hp w out.v out.hp u w1 := by
  unfold abuiltin at h
  split at h
  · split at h
    · rename_i t tl a n c xo el hu
      obtain rfl := Option.some.inj h
      obtain ⟨x', q, rfl, hx, hq⟩ := hv.cons
      obtain rfl := hq.nil
      have hx' : ∃ a' c', x' = .slice a' n c' := by cases a <;> exact ⟨_, _, hx.self⟩
      obtain ⟨a', c', rfl⟩ := hx'
      refine ⟨.int .i64 n, w, ?_, Res.same hH (fun _ _ => rfl)⟩
      simp [builtin, Builtin.len_, run_underlying hu, goInt]
    · cases h
  · rename_i k x k' y
    obtain rfl := Option.some.inj h
    obtain ⟨x', q, rfl, hx, hq⟩ := hv.cons
    obtain ⟨y', q2, rfl, hy, hq2⟩ := hq.cons
    obtain rfl := hq2.nil
    obtain rfl : x' = .int k x := hx.self
    obtain rfl : y' = .int k' y := hy.self
    refine ⟨_, w, ?_, Res.same hH (fun _ _ => rfl)⟩
    simp [builtin, Builtin.min_, Builtin.min2]
  · rename_i k x k' y
    obtain rfl := Option.some.inj h
    obtain ⟨x', q, rfl, hx, hq⟩ := hv.cons
    obtain ⟨y', q2, rfl, hy, hq2⟩ := hq.cons
    obtain rfl := hq2.nil
    obtain rfl : x' = .int k x := hx.self
    obtain rfl : y' = .int k' y := hy.self
    refine ⟨_, w, ?_, Res.same hH (fun _ _ => rfl)⟩
    simp [builtin, Builtin.max_, Builtin.max2]
  · obtain ⟨x', q, rfl, hx, hq⟩ := hv.cons
    obtain ⟨y', q2, rfl, hy, hq2⟩ := hq.cons
    obtain rfl := hq2.nil
    unfold acopy at h
    split at h
    · rename_i hs
      split at h
      · rename_i hgd hgs
        split at h
        · rename_i hrow
          split at h
          · rename_i hk
            subst hk
            obtain rfl := Option.some.inj h
            obtain ⟨u, w1, hr, hres⟩ := sound_copy hs hgd hgs hrow (hpc _ (.tail _ (.tail _ (.head _)))) (hpc _ (.head _)) (hpc _ (.tail _ (.head _))) hx hy hH
            exact ⟨u, w1, by simp [builtin, hr], hres⟩
          · cases h
        · cases h
      · cases h
    · cases h
  · split at h
    · rename_i hs
      obtain rfl := Option.some.inj h
      obtain ⟨x', q, rfl, hx, hq⟩ := hv.cons
      obtain ⟨y', q2, rfl, hy, hq2⟩ := hq.cons
      obtain rfl := hq2.nil
      obtain ⟨i, hu, hi, hsz⟩ := elemSz_some hs
      obtain ⟨c1, rfl⟩ := slice_of hx
      obtain rfl : y' = .slice none 0 0 := hy.self
      refine ⟨.int .i64 0, w, ?_, Res.same hH (fun _ _ => rfl)⟩
      have := fun a sT dl => run_copy_nil (P := E.P) w _ sT type _ a dl c1 hu (by simp [hi])
      simp [builtin, this, goInt]
    · cases h
  · rename_i t t' b o n c
    cases hb : Nat.beq t t'
    · simp only [hb, cond_false, reduceCtorEq] at h
    · simp only [hb, cond_true] at h
      obtain rfl := beq_nat hb
      split at h
      · rename_i es hs
        obtain rfl := Option.some.inj h
        obtain ⟨x', q, rfl, hx, hq⟩ := hv.cons
        obtain ⟨y', q2, rfl, hy, hq2⟩ := hq.cons
        obtain rfl := hq2.nil
        obtain rfl : y' = .slice none 0 0 := hy.self
        have hxs : x' = .slice (some ⟨ρ b, o, none⟩) n c := hx.self
        have hle : n ≤ c := hpc _ (by simp)
        obtain ⟨i, hu, hi, _⟩ := elemSz_some (e := es.1) (sz := es.2) hs
        refine ⟨x', w, ?_, Res.same hH hx⟩
        subst hxs
        simp [builtin, Builtin.append_, run_underlying hu, sizeOf, typeInfo, hi, Builtin.lenOf, Builtin.firstCells, hle, storeCells]
      · cases h
  · rename_i t t' x y _
    cases hb : Nat.beq t t'
    · simp only [hb, cond_false, reduceCtorEq] at h
    · simp only [hb, cond_true] at h
      obtain rfl := beq_nat hb
      obtain ⟨x', q, rfl, hx, hq⟩ := hv.cons
      obtain ⟨y', q2, rfl, hy, hq2⟩ := hq.cons
      obtain rfl := hq2.nil
      obtain ⟨u, w1, hr, hres⟩ := sound_append (type := type) h hpc hx hy hH hF
      exact ⟨u, w1, by simp [builtin, hr], hres⟩
  · cases h
end

/-! ### Calls -/
/-- A call of this function enters its body. -/
def Enters (P : Program) (f : FuncId) : Prop := ∀ (args : Array Value) (w : World), (callFunc f args).run P w = .ok (.enter f args) w
def Comes1 (S : Nat → Prop) (ρ : Nat → Nat) (hp : Hp) (w : World) (out : Out) (e : Ending) (w1 : World) : Prop := ∃ u, e = .returned u ∧ Res S ρ hp w out.v out.hp u w1
def CallOk (P : Program) (f : FuncId) (args : List Value) (hp : Hp) (out : Out) : Prop :=
  Keep hp out.hp ∧ Enters P f ∧ ((∀ p ∈ out.pc, p) → ∀ S ρ w cargs, VRL S ρ args cargs → HR S ρ hp w → NF S hp out.hp → Calls P f ⟨cargs⟩ w (Comes1 S ρ hp w out))
def CfOk (P : Program) (cf : CallF) : Prop := ∀ f args hp ds out, cf f args hp ds = some out → CallOk P f args hp out

/-! ### One operation -/
/-- The temporaries that matter. -/
def TL (S : Nat → Prop) (ρ : Nat → Nat) (tm : List Value) (a : Act) (L : List Tmp) : Prop := ∀ t ∈ L, VRd S ρ (tm.getD t undef) (a.tmps.getD t undef)
def KN (tm : List Value) (kn : Kn) : Prop := ∀ t d, lookK t kn = some d → tm.getD t undef = .bool d

theorem decB_some {b : Bool} {d : Dec} {c : Bool} {pc : List Prop} (h : decB b d = some (c, pc)) (hpc : ∀ p ∈ pc, p) : b = c := by
  cases d with
  | l =>
    cases b <;> simp only [decB, Option.some.injEq, Prod.mk.injEq] at h <;> exact h.1
  | t =>
    simp only [decB, Option.some.injEq, Prod.mk.injEq] at h
    obtain ⟨rfl, rfl⟩ := h
    exact hpc _ (by simp)
  | f =>
    simp only [decB, Option.some.injEq, Prod.mk.injEq] at h
    obtain ⟨rfl, rfl⟩ := h
    exact hpc _ (by simp)
theorem decideT_some {tm : List Value} {t : Nat} {kn kn' : Kn} {ds ds' : List Dec} {d : Bool} {pc : List Prop} (h : decideT tm t kn ds = some (d, kn', ds', pc)) (hpc : ∀ p ∈ pc, p) (hk : KN tm kn) :
    tm.getD t undef = .bool d ∧ KN tm kn' := by
  unfold decideT at h
  split at h
  · rename_i c hc
    simp only [Option.some.injEq, Prod.mk.injEq] at h
    obtain ⟨rfl, rfl, rfl, rfl⟩ := h
    exact ⟨hk _ _ hc, hk⟩
  · split at h
    · rename_i b d0 ds0 hb
      split at h
      · rename_i c pc0 hd
        simp only [Option.some.injEq, Prod.mk.injEq] at h
        obtain ⟨rfl, rfl, rfl, rfl⟩ := h
        have e := decB_some hd hpc
        subst e
        refine ⟨hb, fun u x hu => ?_⟩
        simp only [lookK] at hu
        cases hq : Nat.beq t u
        · simp only [hq, cond_false] at hu
          exact hk u x hu
        · simp only [hq, cond_true, Option.some.injEq] at hu
          obtain rfl := beq_nat hq
          subst hu
          exact hb
      · cases h
    · cases h

theorem TL.or {S : Nat → Prop} {ρ : Nat → Nat} {tm : List Value} {a : Act} {L : List Tmp} {l : List Operand} (h : TL S ρ tm a L) (hl : ∀ t, .tmp t ∈ l → t ∈ L) : OR S ρ tm a.eval l := by
  intro x hx v hv
  cases x with
  | tmp t =>
    obtain ⟨rfl, hd⟩ := aval_tmp hv
    rcases h t (hl t hx) with h | h
    · rw [hd] at h; cases h
    · exact h
  | const c =>
    simp only [aval] at hv
    cases hc : clo c
    · simp only [hc, cond_false, reduceCtorEq] at hv
    · simp only [hc, cond_true, Option.some.injEq] at hv
      subst hv
      exact VR.clo hc
  | func f =>
    simp only [aval, Option.some.injEq] at hv
    subst hv
    exact fun ρ' _ => rfl
  | global g => simp [aval] at hv

section
variable {E : Env} {cf : CallF} {S : Nat → Prop} {ρ : Nat → Nat} {tm : List Value} {kn kn1 : Kn} {hp hp1 : Hp} {ds ds1 : List Dec} {w : World} {v : Value} {pc : List Prop}

theorem doOp_keep (hcf : CfOk E.P cf) {op : Op} (h : doOp E cf tm kn hp ds op = some (v, hp1, ds1, pc, kn1)) : Keep hp hp1 := by
  unfold doOp at h
  split at h
  · split at h
    · split at h
      · split at h
        · rename_i o ho
          simp only [Option.some.injEq, Prod.mk.injEq] at h
          obtain ⟨_, rfl, _, _, _⟩ := h
          exact (hcf _ _ _ _ _ ho).1
        · cases h
      · cases h
    · split at h
      · rename_i o ho
        simp only [Option.some.injEq, Prod.mk.injEq] at h
        obtain ⟨_, rfl, _, _, _⟩ := h
        exact abuiltin_keep ho
      · cases h
    · cases h
  · split at h
    · split at h
      · simp only [Option.some.injEq, Prod.mk.injEq] at h
        obtain ⟨_, rfl, _, _, _⟩ := h
        exact Keep.refl _
      · cases h
    · cases h
  · split at h
    · rename_i ho
      simp only [Option.some.injEq, Prod.mk.injEq] at h
      obtain ⟨_, rfl, _, _, _⟩ := h
      exact aop_keep ho
    · cases h

theorem doOp_sound (hE : EqsOk E) (hcf : CfOk E.P cf) {o : Oper} (h : doOp E cf tm kn hp ds o.op = some (v, hp1, ds1, pc, kn1)) (hpc : ∀ p ∈ pc, p) (hk : KN tm kn) {a : Act}
    (hO : OR S ρ tm a.eval o.op.operands.toList) (hH : HR S ρ hp w) (hF : NF S hp hp1) :
    KN tm kn1 ∧ ∀ (K : Act → World → Prop) (Q : Exit → Act → World → Prop), (∀ u w1, Res S ρ hp w v hp1 u w1 → K (a.put o.dst u) w1) → o.wp E.P a w K Q := by
  have hplain : ∀ op, o.op = op → aop E tm hp op = some (v, hp1, pc) → ∀ (K : Act → World → Prop) (Q : Exit → Act → World → Prop), (∀ u w1, Res S ρ hp w v hp1 u w1 → K (a.put o.dst u) w1) → o.wp E.P a w K Q := by
    intro op hop ha K Q hK
    subst hop
    obtain ⟨u, w1, hr, hres⟩ := aop_sound (ev := a.eval) hE ha hpc hO hH hF
    exact hr.wp (hK u w1 hres)
  generalize hop : o.op = op at h
  unfold doOp at h
  split at h
  · rename_i c
    split at h
    · rename_i x args hc hargs
      split at h
      · rename_i f first cap hx
        split at h
        · rename_i out hout
          simp only [Option.some.injEq, Prod.mk.injEq] at h
          obtain ⟨rfl, rfl, rfl, rfl, rfl⟩ := h
          refine ⟨hk, fun K Q hK => ?_⟩
          obtain ⟨_, hent, hcall⟩ := hcf _ _ _ _ _ hout
          have hxv := hO x (by simp [hop, Op.operands, Call.operands, hc]) _ hx
          have hav := OR.avals (S := S) (ρ := ρ) (ev := a.eval) (fun y hy => hO y (by
            simp only [hop, Op.operands, Call.operands, Array.toList_append, List.mem_append]; exact .inr hy)) hargs
          have hxe : a.eval x = .func (.func f) ⟨first.map (ren ρ)⟩ ⟨cap.map (ren ρ)⟩ := by rw [hxv.self, ren_func]
          have hfc : ∀ ρ', Ag S ρ ρ' → first.map (ren ρ) = first.map (ren ρ') ∧ cap.map (ren ρ) = cap.map (ren ρ') := fun ρ' ha => by
            have := hxv ρ' ha
            rw [hxe, ren_func] at this
            injection this with _ q1 q2
            injection q1 with q1
            injection q2 with q2
            exact ⟨q1, q2⟩
          have hv : VRL S ρ (first ++ (args ++ cap)) (first.map (ren ρ) ++ ((c.args.toList.map a.eval) ++ cap.map (ren ρ))) :=
            VRL.app (fun ρ' ha => (hfc ρ' ha).1) (VRL.app hav (fun ρ' ha => (hfc ρ' ha).2))
          have hcl := hcall hpc S ρ w _ hv hH hF
          have hrun : (execOp a.eval o).run E.P w = .ok (.enter f ⟨first.map (ren ρ) ++ ((c.args.toList.map a.eval) ++ cap.map (ren ρ))⟩) w := by
            have harr : (⟨first.map (ren ρ)⟩ : Array Value) ++ c.args.map a.eval ++ (⟨cap.map (ren ρ)⟩ : Array Value) = ⟨first.map (ren ρ) ++ ((c.args.toList.map a.eval) ++ cap.map (ren ρ))⟩ := by
              apply Array.ext'
              simp
            simp only [execOp, hop, resolve, hc, hxe, Deferred.ofValue, Sem.run_bind, Sem.run_pure, Result.andThen_ok, invoke]
            rw [harr]
            exact hent _ _
          unfold Oper.wp
          rw [hrun]
          refine Calls.mono hcl fun e w1 he => ?_
          obtain ⟨u, rfl, hres⟩ := he
          exact hK u w1 hres
        · cases h
      · cases h
    · rename_i b args hc hargs
      split at h
      · rename_i out hout
        simp only [Option.some.injEq, Prod.mk.injEq] at h
        obtain ⟨rfl, rfl, rfl, rfl, rfl⟩ := h
        refine ⟨hk, fun K Q hK => ?_⟩
        have hav := OR.avals (S := S) (ρ := ρ) (ev := a.eval) (fun y hy => hO y (by
          simp only [hop, Op.operands, Call.operands, Array.toList_append, List.mem_append]; exact .inr hy)) hargs
        obtain ⟨u, w1, hr, hres⟩ := abuiltin_sound hout hpc hav hH hF o.type (c.args.map fun | .const _ => true | _ => false)
        have hrun : (execOp a.eval o).run E.P w = .ok (.value u) w1 := by
          have e1 : c.argTypes = ⟨c.argTypes.toList⟩ := rfl
          have e2 : c.args.map a.eval = ⟨c.args.toList.map a.eval⟩ := by apply Array.ext'; simp
          simp only [execOp, hop, resolve, hc, Sem.run_bind, Sem.run_pure, Result.andThen_ok, invoke]
          rw [e2]
          exact hr
        exact Ran.wp (.inl hrun) (hK u w1 hres)
      · cases h
    · cases h
  · rename_i t x y
    split at h
    · rename_i d kn' ds' pc' hd
      split at h
      · rename_i v' hv'
        simp only [Option.some.injEq, Prod.mk.injEq] at h
        obtain ⟨rfl, rfl, rfl, rfl, rfl⟩ := h
        obtain ⟨htd, hk'⟩ := decideT_some hd hpc hk
        refine ⟨hk', fun K Q hK => ?_⟩
        have he : a.eval (.tmp t) = .bool d := by
          have := hO (.tmp t) (by simp [hop, Op.operands]) (.bool d) (by simp only [aval]; rw [htd])
          exact this.self
        have hvr : VR S ρ v' (a.eval (bif d then x else y)) := hO _ (by cases d <;> simp [hop, Op.operands]) _ hv'
        refine Ran.wp (u := a.eval (bif d then x else y)) (w1 := w) (.inl ?_) (hK _ _ (Res.same hH hvr))
        cases d <;> simp [execOp, hop, he, asBool]
      · cases h
    · cases h
  · split at h
    · rename_i ho
      simp only [Option.some.injEq, Prod.mk.injEq] at h
      obtain ⟨rfl, rfl, rfl, rfl, rfl⟩ := h
      exact ⟨hk, hplain _ hop ho⟩
    · cases h

theorem doOper_keep (hcf : CfOk E.P cf) {ops : Array Oper} {o : Oper} (h : doOper E cf ops tm kn hp ds o = some (v, hp1, ds1, pc, kn1)) : Keep hp hp1 := by
  unfold doOper at h
  split at h
  · exact doOp_keep hcf h
  · split at h
    · cases h
    · rename_i t _
      cases hu : isU (tm.getD t undef)
      · simp only [hu, cond_false] at h
        split at h
        · cases h
        · split at h
          · simp only [Option.some.injEq, Prod.mk.injEq] at h
            obtain ⟨_, rfl, _, _, _⟩ := h
            exact Keep.refl _
          · split at h
            · rename_i ho
              simp only [Option.some.injEq, Prod.mk.injEq] at h
              obtain ⟨_, rfl, _, _, _⟩ := h
              exact doOp_keep hcf ho
            · cases h
      · simp only [hu, cond_true, Option.some.injEq, Prod.mk.injEq] at h
        obtain ⟨_, rfl, _, _, _⟩ := h
        exact Keep.refl _

theorem isU_eq {v : Value} (h : isU v = true) : v = undef := by
  unfold isU at h
  split at h
  · rfl
  · cases h
theorem looks_op {ops : Array Oper} {o : Oper} {t : Tmp} (h : .tmp t ∈ o.op.operands.toList) : t ∈ o.looksAt ops :=
  List.mem_append.2 (.inl (List.mem_filterMap.2 ⟨.tmp t, h, rfl⟩))

theorem doOper_sound (hE : EqsOk E) (hcf : CfOk E.P cf) {ops : Array Oper} {o : Oper} (h : doOper E cf ops tm kn hp ds o = some (v, hp1, ds1, pc, kn1)) (hpc : ∀ p ∈ pc, p) (hk : KN tm kn) {a : Act}
    (hT : TL S ρ tm a (o.looksAt ops)) (hH : HR S ρ hp w) (hF : NF S hp hp1) :
    KN tm kn1 ∧ ∀ (K : Act → World → Prop) (Q : Exit → Act → World → Prop), (∀ u w1, Res S ρ hp w v hp1 u w1 → K (a.put o.dst u) w1) →
      if Region.wanted o (yielded ops a.tmps) then o.wp E.P a w K Q ∨ (o.asks E.P a w ∧ LetsOut Q) else K (a.put o.dst undef) w := by
  have hO : OR S ρ tm a.eval o.op.operands.toList := hT.or (fun t ht => looks_op ht)
  unfold doOper at h
  split at h
  · rename_i hg
    obtain ⟨h1, h2⟩ := doOp_sound hE hcf h hpc hk hO hH hF
    refine ⟨h1, fun K Q hK => ?_⟩
    rw [if_pos (by simp [Region.wanted, hg])]
    exact .inl (h2 K Q hK)
  · rename_i j want hg
    split at h
    · cases h
    · rename_i t ht
      cases hu : isU (tm.getD t undef)
      · simp only [hu, cond_false] at h
        split at h
        · cases h
        · rename_i d kn' ds' pc' hd
          have hy : ∀ (hp' : ∀ p ∈ pc', p), yielded ops a.tmps j = some d ∧ KN tm kn' := fun hp' => by
            obtain ⟨htd, hk'⟩ := decideT_some hd hp' hk
            have hv := hT t (List.mem_append.2 (.inr (by simp [hg, ht])))
            rw [htd] at hv
            have he : a.tmps.getD t undef = .bool d := hv.bool
            have hget : a.tmps[t]? = some (.bool d) := by
              cases hq : a.tmps[t]? with
              | none =>
                rw [Array.getD_eq_getD_getElem?, hq] at he
                cases he
              | some x =>
                rw [Array.getD_eq_getD_getElem?, hq] at he
                simp at he
                rw [he]
            refine ⟨?_, hk'⟩
            unfold yielded
            rw [ht]
            simp [hget]
          split at h
          · rename_i hx
            simp only [Option.some.injEq, Prod.mk.injEq] at h
            obtain ⟨rfl, rfl, rfl, rfl, rfl⟩ := h
            obtain ⟨hyy, hk'⟩ := hy hpc
            refine ⟨hk', fun K Q hK => ?_⟩
            rw [if_neg (by
              simp only [Region.wanted, hg, hyy]
              cases d <;> cases want <;> simp_all)]
            exact hK undef w (Res.same hH (fun _ _ => rfl))
          · rename_i hx
            split at h
            · rename_i v0 hp0 ds0 pc0 kn0 ho
              simp only [Option.some.injEq, Prod.mk.injEq] at h
              obtain ⟨rfl, rfl, rfl, rfl, rfl⟩ := h
              obtain ⟨hyy, hk'⟩ := hy (fun p hp => hpc p (List.mem_append.2 (.inl hp)))
              obtain ⟨h1, h2⟩ := doOp_sound hE hcf ho (fun p hp => hpc p (List.mem_append.2 (.inr hp))) hk' hO hH hF
              refine ⟨h1, fun K Q hK => ?_⟩
              rw [if_pos (by
                simp only [Region.wanted, hg, hyy]
                cases d <;> cases want <;> simp_all)]
              exact .inl (h2 K Q hK)
            · cases h
      · simp only [hu, cond_true, Option.some.injEq, Prod.mk.injEq] at h
        obtain ⟨rfl, rfl, rfl, rfl, rfl⟩ := h
        refine ⟨hk, fun K Q hK => ?_⟩
        have hv := hT t (List.mem_append.2 (.inr (by simp [hg, ht])))
        have eu := isU_eq hu
        rw [eu] at hv
        have he : a.tmps.getD t undef = undef := by
          rcases hv with h | h
          · cases h
          · exact h.self
        have hyy : ∀ d, yielded ops a.tmps j ≠ some d := fun d hd => by
          unfold yielded at hd
          rw [ht] at hd
          rw [Array.getD_eq_getD_getElem?] at he
          cases hq : a.tmps[t]? with
          | none => simp [hq] at hd
          | some x =>
            rw [hq] at he
            simp at he
            subst he
            simp [hq, undef] at hd
        rw [if_neg (by
          simp only [Region.wanted, hg]
          intro e
          exact hyy want (by simpa using e))]
        exact hK undef w (Res.same hH (fun _ _ => rfl))
end

theorem doOp_kn {E : Env} {cf : CallF} {tm : List Value} {kn kn1 : Kn} {hp hp1 : Hp} {ds ds1 : List Dec} {v : Value} {pc : List Prop} {op : Op} (h : doOp E cf tm kn hp ds op = some (v, hp1, ds1, pc, kn1)) (hpc : ∀ p ∈ pc, p) (hk : KN tm kn) : KN tm kn1 := by
  unfold doOp at h
  split at h
  · split at h
    · split at h
      · split at h
        · simp only [Option.some.injEq, Prod.mk.injEq] at h; obtain ⟨_, _, _, _, rfl⟩ := h; exact hk
        · cases h
      · cases h
    · split at h
      · simp only [Option.some.injEq, Prod.mk.injEq] at h; obtain ⟨_, _, _, _, rfl⟩ := h; exact hk
      · cases h
    · cases h
  · split at h
    · rename_i hd
      split at h
      · simp only [Option.some.injEq, Prod.mk.injEq] at h; obtain ⟨_, _, _, rfl, rfl⟩ := h; exact (decideT_some hd hpc hk).2
      · cases h
    · cases h
  · split at h
    · simp only [Option.some.injEq, Prod.mk.injEq] at h; obtain ⟨_, _, _, _, rfl⟩ := h; exact hk
    · cases h
theorem doOper_kn {E : Env} {cf : CallF} {ops : Array Oper} {tm : List Value} {kn kn1 : Kn} {hp hp1 : Hp} {ds ds1 : List Dec} {v : Value} {pc : List Prop} {o : Oper} (h : doOper E cf ops tm kn hp ds o = some (v, hp1, ds1, pc, kn1)) (hpc : ∀ p ∈ pc, p) (hk : KN tm kn) : KN tm kn1 := by
  unfold doOper at h
  split at h
  · exact doOp_kn h hpc hk
  · split at h
    · cases h
    · rename_i t _
      cases hu : isU (tm.getD t undef)
      · simp only [hu, cond_false] at h
        split at h
        · cases h
        · rename_i hd
          split at h
          · simp only [Option.some.injEq, Prod.mk.injEq] at h; obtain ⟨_, _, _, rfl, rfl⟩ := h; exact (decideT_some hd hpc hk).2
          · split at h
            · rename_i ho
              simp only [Option.some.injEq, Prod.mk.injEq] at h
              obtain ⟨_, _, _, rfl, rfl⟩ := h
              exact doOp_kn ho (fun p hp => hpc p (List.mem_append.2 (.inr hp))) (decideT_some hd (fun p hp => hpc p (List.mem_append.2 (.inl hp))) hk).2
            · cases h
      · simp only [hu, cond_true, Option.some.injEq, Prod.mk.injEq] at h
        obtain ⟨_, _, _, _, rfl⟩ := h
        exact hk

/-! ### Rows of operations, one behind the other -/
structure FrR (S : Nat → Prop) (ρ : Nat → Nat) (tm : List Value) (hp : Hp) (a : Act) (w : World) : Prop where
  size : tm.length = a.tmps.size
  tmp : ∀ t, VRd S ρ (tm.getD t undef) (a.tmps.getD t undef)
  heap : HR S ρ hp w
  defers : a.defers = []

theorem putT_length (tm : List Value) (d : Option Tmp) (v : Value) : (putT tm d v).length = tm.length := by
  cases d <;> simp [putT]
theorem put_size (a : Act) (d : Option Tmp) (u : Value) : (a.put d u).tmps.size = a.tmps.size := by
  cases d <;> simp [Act.put]
theorem putT_get {tm : List Value} {d t : Nat} {v : Value} : (putT tm (some d) v).getD t undef = if d = t ∧ d < tm.length then v else tm.getD t undef := by
  simp only [putT, List.getD]
  by_cases h : d = t
  · subst h
    by_cases hl : d < tm.length
    · simp [hl]
    · simp [hl]
  · simp [h]
theorem put_get {a : Act} {d t : Nat} {u : Value} : (a.put (some d) u).tmps.getD t undef = if d = t ∧ d < a.tmps.size then u else a.tmps.getD t undef := by
  simp only [Act.put, Array.getD_eq_getD_getElem?]
  by_cases h : d = t
  · subst h
    by_cases hl : d < a.tmps.size
    · simp [hl]
    · simp [hl]
  · simp [h, Array.getElem?_setIfInBounds_ne h]
theorem FrR.put {S S1 : Nat → Prop} {ρ ρ1 : Nat → Nat} {tm : List Value} {hp hp1 : Hp} {a : Act} {w w1 : World} {v u : Value} (h : FrR S ρ tm hp a w) (hs : ∀ k, S k → S1 k) (ha : Ag S ρ ρ1) (hH : HR S1 ρ1 hp1 w1) (hv : VR S1 ρ1 v u) (d : Option Tmp) :
    FrR S1 ρ1 (putT tm d v) hp1 (a.put d u) w1 := by
  refine ⟨by rw [putT_length, put_size, h.size], fun t => ?_, hH, by cases d <;> exact h.defers⟩
  cases d with
  | none => exact (h.tmp t).up hs ha
  | some d =>
    rw [putT_get, put_get, h.size]
    split
    · exact .inr hv
    · exact (h.tmp t).up hs ha
theorem KN.put {tm : List Value} {kn : Kn} (h : KN tm kn) (d : Option Tmp) (v : Value) : KN (putT tm d v) (putK kn d) := by
  cases d with
  | none => exact h
  | some d =>
    intro t x hx
    have hd : ∀ kn : Kn, lookK t (dropK d kn) = some x → t ≠ d ∧ lookK t kn = some x := by
      intro kn
      induction kn with
      | nil => intro h; simp [dropK, lookK] at h
      | cons p r ih =>
        obtain ⟨u, b⟩ := p
        intro h
        simp only [dropK] at h
        cases hu : Nat.beq u d
        · simp only [hu, cond_false, lookK] at h
          cases ht : Nat.beq u t
          · simp only [ht, cond_false] at h
            simp only [lookK, ht, cond_false]
            exact ih h
          · simp only [ht, cond_true, Option.some.injEq] at h
            have e1 := beq_nat ht
            have e2 := bne_nat hu
            subst e1
            exact ⟨e2, by simp only [lookK, ht, cond_true, h]⟩
        · simp only [hu, cond_true] at h
          obtain ⟨q1, q2⟩ := ih h
          have e1 := beq_nat hu
          refine ⟨q1, ?_⟩
          simp only [lookK]
          have : Nat.beq u t = false := by
            cases hq : Nat.beq u t
            · rfl
            · exact absurd ((beq_nat hq).symm.trans e1) q1
          rw [this, cond_false]
          exact q2
    obtain ⟨hne, hl⟩ := hd kn hx
    rw [putT_get, if_neg (fun e => hne e.1.symm)]
    exact h t x hl

theorem NF.left {S : Nat → Prop} {a b c : Hp} (h : NF S a c) (hb : b.next ≤ c.next) : NF S a b := fun k h1 h2 => h k h1 (Nat.lt_of_lt_of_le h2 hb)
theorem NF.right {S : Nat → Prop} {a b c : Hp} (h : NF S a c) (ha : a.next ≤ b.next) : NF (SN S a b) b c := fun k h1 h2 hs => by
  rcases hs with hs | hs
  · exact h k (Nat.le_trans ha h1) h2 hs
  · omega
theorem SN.trans {S : Nat → Prop} {a b c : Hp} (h1 : a.next ≤ b.next) (h2 : b.next ≤ c.next) (k : Nat) (h : SN (SN S a b) b c k) : SN S a c k := by
  rcases h with (h | h) | h
  · exact .inl h
  · exact .inr ⟨h.1, by omega⟩
  · exact .inr ⟨by omega, h.2⟩
theorem FrR.up {S S1 : Nat → Prop} {ρ : Nat → Nat} {tm : List Value} {hp : Hp} {a : Act} {w : World} (h : FrR S ρ tm hp a w) (hs : ∀ k, S k → S1 k) : FrR S1 ρ tm hp a w :=
  ⟨h.size, fun t => (h.tmp t).up hs (Ag.refl _ _), h.heap.up hs, h.defers⟩

section
variable {E : Env} {cf : CallF}
/-- What holds behind a piece of code that has gone well. -/
def After (S : Nat → Prop) (ρ : Nat → Nat) (fr fr1 : Fr) (w : World) (a1 : Act) (w1 : World) : Prop :=
  ∃ ρ1, Ag S ρ ρ1 ∧ FrR (SN S fr.hp fr1.hp) ρ1 fr1.tm fr1.hp a1 w1 ∧ FR ρ ρ1 fr.hp fr1.hp w w1
theorem After.refl {S : Nat → Prop} {ρ : Nat → Nat} {fr : Fr} {w : World} {a : Act} (h : FrR S ρ fr.tm fr.hp a w) : After S ρ fr fr w a w :=
  ⟨ρ, Ag.refl _ _, h.up SN.left, FR.refl _ _ _⟩
theorem After.trans {S : Nat → Prop} {ρ ρ1 : Nat → Nat} {fr fr1 fr2 : Fr} {w w1 w2 : World} {a2 : Act} (hl : fr.hp.next ≤ fr1.hp.next) (hl' : fr1.hp.next ≤ fr2.hp.next) (ha : Ag S ρ ρ1)
    (hf : FR ρ ρ1 fr.hp fr1.hp w w1) (h : After (SN S fr.hp fr1.hp) ρ1 fr1 fr2 w1 a2 w2) : After S ρ fr fr2 w a2 w2 := by
  obtain ⟨ρ2, q1, q2, q3⟩ := h
  exact ⟨ρ2, ha.trans SN.left q1, q2.up (SN.trans hl hl'), hf.trans q3⟩

theorem doOps_sound (hE : EqsOk E) (hcf : CfOk E.P cf) {ops : Array Oper} : ∀ (l : List Oper) (kn : Kn) (fr fr1 : Fr), doOps E cf ops l kn fr = some fr1 →
    Keep fr.hp fr1.hp ∧ (∀ p ∈ fr.pc, p ∈ fr1.pc) ∧ ∀ (S : Nat → Prop) (ρ : Nat → Nat) (a : Act) (w : World) (Q : Exit → Act → World → Prop), FrR S ρ fr.tm fr.hp a w → NF S fr.hp fr1.hp → (∀ p ∈ fr1.pc, p) → KN fr.tm kn →
      (∀ a1 w1, After S ρ fr fr1 w a1 w1 → Q .normal a1 w1) → wpList E.P ops Q l a w
  | [], kn, fr, fr1, h => by
    simp only [doOps, Option.some.injEq] at h
    subst h
    exact ⟨Keep.refl _, fun _ hp => hp, fun S ρ a w Q hf _ _ _ hQ => hQ a w (After.refl hf)⟩
  | o :: rest, kn, fr, fr1, h => by
    simp only [doOps] at h
    split at h
    · rename_i v hp ds pc kn' ho
      obtain ⟨ih1, ih2, ih3⟩ := doOps_sound hE hcf rest _ _ _ h
      have hk1 := doOper_keep hcf ho
      refine ⟨hk1.trans ih1, fun p hp => ih2 p (List.mem_append.2 (.inl hp)), fun S ρ a w Q hf hN hpc hk hQ => ?_⟩
      have hpc' : ∀ p ∈ pc, p := fun p hp => hpc p (ih2 p (List.mem_append.2 (.inr hp)))
      obtain ⟨hkn, hstep⟩ := doOper_sound (S := S) (ρ := ρ) (a := a) (w := w) hE hcf ho hpc' hk (fun t _ => hf.tmp t) hf.heap (hN.left ih1.le)
      have := hstep (wpList E.P ops Q rest) Q (fun u w1 hres => by
        obtain ⟨ρ1, r1, r2, r3, r4⟩ := hres
        refine ih3 (SN S fr.hp hp) ρ1 _ w1 Q (hf.put SN.left r1 r2 r3 o.dst) (hN.right hk1.le) hpc (hkn.put o.dst v) fun a1 w2 haft => hQ a1 w2 ?_
        exact After.trans (fr1 := ⟨putT fr.tm o.dst v, hp, ds, fr.pc ++ pc⟩) hk1.le ih1.le r1 r4 haft)
      unfold wpList
      exact this
    · cases h
end
end Go.Proofs.Ytcpkieahnkfpoaa.Ev
