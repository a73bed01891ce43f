/- A region whose order is open does what the evaluator says, in whatever order. -/
import Derived.Test.YtcpkieahnkfpoaaEvExec
namespace Go.Proofs.Ytcpkieahnkfpoaa.Ev
open Go Go.RowKit

theorem disj_iff {a b : List Nat} : disj a b = true ↔ ∀ x ∈ a, x ∉ b := by
  induction a with
  | nil => simp [disj]
  | cons x a ih =>
    simp only [disj]
    cases h : has x b
    · simp only [cond_false, ih, List.mem_cons, forall_eq_or_imp]
      have : x ∉ b := fun hx => by rw [has_iff.2 hx] at h; cases h
      simp [this]
    · simp only [cond_true]
      have := has_iff.1 h
      simp [this]

/-- The latest record that wrote a block, of those that D lets in. -/
def lookR : List Rec → (Nat → Bool) → Nat → Option Blk → Option Blk
  | [], _, _, b => b
  | r :: rs, D, x, b => if D r.i = true ∧ x ∈ r.wr then r.out.get x else lookR rs D x b
def tmR : List Rec → (Nat → Bool) → Nat → Value → Value
  | [], _, _, b => b
  | r :: rs, D, t, b => if D r.i = true ∧ r.o.dst = some t then r.v else tmR rs D t b
def hpR : List Rec → (Nat → Bool) → Hp → Hp
  | [], _, h => h
  | r :: rs, D, h => if D r.i = true then (hpR rs D h).merge r.out r.wr else hpR rs D h
theorem get_hpR (D : Nat → Bool) (h : Hp) (x : Nat) : ∀ rs, (hpR rs D h).get x = lookR rs D x (h.get x)
  | [] => rfl
  | r :: rs => by
    have ih := get_hpR D h x rs
    simp only [hpR, lookR]
    split
    · rename_i hd
      rw [get_merge]
      by_cases hx : x ∈ r.wr
      · rw [if_pos (has_iff.2 hx), if_pos ⟨hd, hx⟩]
      · rw [if_neg (fun h => hx (has_iff.1 h)), if_neg (fun h => hx h.2), ih]
    · rename_i hd
      rw [if_neg (fun h => hd h.1), ih]
theorem lookR_congr {D D' : Nat → Bool} {x : Nat} {b : Option Blk} : ∀ {rs : List Rec}, (∀ r ∈ rs, x ∈ r.wr → D r.i = D' r.i) → lookR rs D x b = lookR rs D' x b
  | [], _ => rfl
  | r :: rs, h => by
    have ih := lookR_congr (D := D) (D' := D') (x := x) (b := b) (rs := rs) (fun q hq => h q (List.mem_cons_of_mem _ hq))
    simp only [lookR, ih]
    by_cases hx : x ∈ r.wr
    · rw [h r List.mem_cons_self hx]
    · simp [hx]
theorem tmR_congr {D D' : Nat → Bool} {t : Nat} {b : Value} : ∀ {rs : List Rec}, (∀ r ∈ rs, r.o.dst = some t → D r.i = D' r.i) → tmR rs D t b = tmR rs D' t b
  | [], _ => rfl
  | r :: rs, h => by
    have ih := tmR_congr (D := D) (D' := D') (t := t) (b := b) (rs := rs) (fun q hq => h q (List.mem_cons_of_mem _ hq))
    simp only [tmR, ih]
    by_cases hx : r.o.dst = some t
    · rw [h r List.mem_cons_self hx]
    · simp [hx]

section
variable (E : Env) (cf : CallF) (ops : Array Oper) (tm0 : List Value) (hp0 : Hp)
/-- What is known of a record, of those ahead of it. -/
structure RecOk (rs : List Rec) (r : Rec) : Prop where
  run : ∃ (tm : List Value) (kn : Kn) (hp : Hp) (ds ds1 : List Dec) (pc : List Prop) (kn1 : Kn), (∀ t, tm.getD t undef = tmR rs (fun _ => true) t (tm0.getD t undef)) ∧ (∀ x, hp.get x = lookR rs (fun _ => true) x (hp0.get x)) ∧ KN tm kn ∧
    r.hin = hp.only r.rd ∧ doOper E cf ops tm kn r.hin ds r.o = some (r.v, r.out, ds1, pc, kn1) ∧ (∀ p ∈ pc, p)
  wr : r.wr = writes r.hin r.out
  op : ops[r.i]? = some r.o
  up : ∀ q ∈ rs, q.i < r.i ∧ q.out.next ≤ r.hin.next
  low : hp0.next ≤ r.hin.next
  le : r.hin.next ≤ r.out.next
  edges : ∀ e ∈ r.o.after, Region.binds .any e = true → e.on < r.i
  dst : ∀ d, r.o.dst = some d → d < tm0.length
def Recs : List Rec → Prop
  | [] => True
  | r :: rs => Recs rs ∧ RecOk E cf ops tm0 hp0 rs r
/-- Two records that are in no order keep apart; one that must come ahead is an ancestor by the edges. -/
inductive Anc (ops : Array Oper) : Nat → Nat → Prop
  | one {i j : Nat} {o : Oper} {e : Edge} : ops[j]? = some o → e ∈ o.after → Region.binds .any e = true → e.on = i → Anc ops i j
  | more {i j k : Nat} {o : Oper} {e : Edge} : ops[k]? = some o → e ∈ o.after → Region.binds .any e = true → e.on = j → Anc ops i j → Anc ops i k
def Pairs : List Rec → Prop
  | [] => True
  | r :: rs => Pairs rs ∧ ∀ q ∈ rs, Anc ops q.i r.i ∨ apartR ops q r = true
end

section
variable {E : Env} {cf : CallF} {ops : Array Oper} {tm0 : List Value} {hp0 : Hp}

theorem mem_addNames {n : Nat} : ∀ {l acc : List Nat}, n ∈ addNames l acc → n ∈ l ∨ n ∈ acc
  | [], acc, h => .inr h
  | m :: r, acc, h => by
    simp only [addNames] at h
    cases hm : has m acc
    · simp only [hm, cond_false] at h
      rcases mem_addNames h with h | h
      · exact .inl (List.mem_cons_of_mem _ h)
      · rcases List.mem_cons.1 h with rfl | h
        · exact .inl List.mem_cons_self
        · exact .inr h
    · simp only [hm, cond_true] at h
      rcases mem_addNames h with h | h
      · exact .inl (List.mem_cons_of_mem _ h)
      · exact .inr h
theorem aheadOf_anc {bef : List (Nat × List Nat)} (hb : ∀ p ∈ bef, ∀ i ∈ p.2, Anc ops i p.1) {k : Nat} {o : Oper} (ho : ops[k]? = some o) : ∀ {es : List Edge}, (∀ e ∈ es, e ∈ o.after) → ∀ i ∈ aheadOf bef es, Anc ops i k
  | [], _, i, hi => by simp [aheadOf] at hi
  | e :: es, h, i, hi => by
    have ih := aheadOf_anc hb ho (es := es) (fun e he => h e (List.mem_cons_of_mem _ he))
    simp only [aheadOf] at hi
    cases hbd : Region.binds .any e
    · simp only [hbd, cond_false] at hi
      exact ih i hi
    · simp only [hbd, cond_true] at hi
      rcases mem_addNames hi with hi | hi
      · rcases List.mem_cons.1 hi with rfl | hi
        · exact .one ho (h e List.mem_cons_self) hbd rfl
        · split at hi
          · rename_i p hp
            have hm := List.mem_of_find?_eq_some hp
            have heq : p.1 = e.on := beq_nat (by simpa using List.find?_some hp)
            exact .more ho (h e List.mem_cons_self) hbd heq.symm (hb p hm i hi)
          · simp at hi
      · exact ih i hi

theorem dstOk_lt {n d : Nat} (h : dstOk n (some d) = true) : d < n := Nat.lt_of_succ_le (by simpa [dstOk, Nat.blt] using h)
/-- What the evaluator's way through a region shows. -/
theorem doDraw_recs (hcf : CfOk E.P cf) (hE : EqsOk E) : ∀ (l : List Oper) (i : Nat) (kn : Kn) (fr : Fr) (bef : List (Nat × List Nat)) (rs : List Rec) (fr1 : Fr) (rs1 : List Rec),
    doDraw E cf ops l i kn fr bef rs = some (fr1, rs1) → (∀ k, l[k]? = ops[i + k]?) →
    (∀ p ∈ fr.pc, p ∈ fr1.pc) ∧ fr.hp.next ≤ fr1.hp.next ∧
    ((∀ p ∈ fr1.pc, p) → KN fr.tm kn → Recs E cf ops tm0 hp0 rs → Pairs ops rs → (∀ t, fr.tm.getD t undef = tmR rs (fun _ => true) t (tm0.getD t undef)) → fr.tm.length = tm0.length →
      (∀ x, fr.hp.get x = lookR rs (fun _ => true) x (hp0.get x)) → hp0.next ≤ fr.hp.next → (∀ q ∈ rs, q.i < i ∧ q.out.next ≤ fr.hp.next) → (∀ j, j < i → ∃ r ∈ rs, r.i = j) → (∀ p ∈ bef, ∀ j ∈ p.2, Anc ops j p.1) →
      (∀ m, m < hp0.next → m ∈ hp0.log → m ∈ fr.hp.log) → (∀ n, n < hp0.next → n ∉ fr.hp.log → fr.hp.get n = hp0.get n) →
      Recs E cf ops tm0 hp0 rs1 ∧ Pairs ops rs1 ∧ (∀ t, fr1.tm.getD t undef = tmR rs1 (fun _ => true) t (tm0.getD t undef)) ∧ fr1.tm.length = tm0.length ∧
      (∀ x, fr1.hp.get x = lookR rs1 (fun _ => true) x (hp0.get x)) ∧ (∀ q ∈ rs1, q.i < i + l.length ∧ q.out.next ≤ fr1.hp.next) ∧ (∀ j, j < i + l.length → ∃ r ∈ rs1, r.i = j) ∧ Keep hp0 fr1.hp)
  | [], i, kn, fr, bef, rs, fr1, rs1, h, _ => by
    simp only [doDraw, Option.some.injEq, Prod.mk.injEq] at h
    obtain ⟨rfl, rfl⟩ := h
    refine ⟨fun _ hp => hp, Nat.le_refl _, fun _ _ h1 h2 h3 h4 h5 h6 h7 h8 _ h10 h11 => ⟨h1, h2, h3, h4, h5, ?_, ?_, ⟨h6, h10, h11⟩⟩⟩
    · simpa using h7
    · simpa using h8
  | o :: rest, i, kn, fr, bef, rs, fr1, rs1, h, hl => by
    simp only [doDraw] at h
    split at h
    · rename_i v out ds pc kn' ho
      obtain ⟨r, hr⟩ : ∃ r : Rec, r = ⟨i, o, touches fr.tm fr.hp o.op, writes (fr.hp.only (touches fr.tm fr.hp o.op)) out, fr.hp.only (touches fr.tm fr.hp o.op), out, v⟩ := ⟨_, rfl⟩
      rw [← hr] at h
      cases hck : drawOk ops rs r (aheadOf bef o.after.toList) fr.tm.length
      · rw [hck] at h
        cases h
      · rw [hck] at h
        replace h : doDraw E cf ops rest (i + 1) (putK kn' o.dst) ⟨putT fr.tm o.dst v, fr.hp.merge out (writes (fr.hp.only (touches fr.tm fr.hp o.op)) out), ds, fr.pc ++ pc⟩ ((i, aheadOf bef o.after.toList) :: bef) (r :: rs) = some (fr1, rs1) := h
        have hl' : ∀ k, rest[k]? = ops[i + 1 + k]? := fun k => by
          have := hl (k + 1)
          simp only [List.getElem?_cons_succ] at this
          rw [this]
          congr 1
          omega
        obtain ⟨ih1, ih2, ih3⟩ := doDraw_recs hcf hE rest (i + 1) _ _ _ _ _ _ h hl'
        have hop : ops[i]? = some o := by have := hl 0; simpa using this.symm
        have hkeep := doOper_keep hcf ho
        have hle : fr.hp.next ≤ out.next := hkeep.le
        subst hr
        simp only [drawOk, Bool.and_eq_true, List.all_eq_true] at hck
        obtain ⟨⟨hpairs, hedges⟩, hdst⟩ := hck
        refine ⟨fun p hp => ih1 p (List.mem_append.2 (.inl hp)), Nat.le_trans hle ih2, fun hpc hk hR hP hT hlen hG hlow hup hall hbef hlog hsame => ?_⟩
        have hpc' : ∀ p ∈ pc, p := fun p hp => hpc p (ih1 p (List.mem_append.2 (.inr hp)))
        have hkn' : KN fr.tm kn' := by
          have := doOper_kn ho hpc' hk
          exact this
        have hok : RecOk E cf ops tm0 hp0 rs ⟨i, o, touches fr.tm fr.hp o.op, writes (fr.hp.only (touches fr.tm fr.hp o.op)) out, fr.hp.only (touches fr.tm fr.hp o.op), out, v⟩ :=
          { run := ⟨fr.tm, kn, fr.hp, fr.ds, ds, pc, kn', hT, hG, hk, rfl, ho, hpc'⟩
            wr := rfl
            op := hop
            up := hup
            low := hlow
            le := hle
            edges := fun e he hb => by
              have := hedges e (by simpa using he)
              rw [hb] at this
              simp [Nat.blt] at this
              show e.on < i
              omega
            dst := fun d hd => by
              have hd' : o.dst = some d := hd
              rw [hd'] at hdst
              exact hlen ▸ dstOk_lt hdst }
        have hwr : ∀ x, x ∈ writes (fr.hp.only (touches fr.tm fr.hp o.op)) out ↔ x ∈ out.log ∨ x ∈ newKeys fr.hp.next out.blks := fun x => by simp [writes, Hp.only]
        have hres := ih3 hpc (hkn'.put o.dst v) ⟨hR, hok⟩ ⟨hP, fun q hq => by
            have := hpairs q hq
            simp only [Bool.or_eq_true] at this
            rcases this with h1 | h1
            · exact .inl (aheadOf_anc hbef hop (fun e he => by simpa using he) _ (has_iff.1 h1))
            · exact .inr h1⟩ (fun t => ?_) (by rw [putT_length, hlen]) (fun x => ?_) (Nat.le_trans hlow hle) (fun q hq => ?_) (fun j hj => ?_) (fun p hp j hj => ?_) (fun m hm hml => ?_) (fun n hn hnl => ?_)
        · obtain ⟨q1, q2, q3, q4, q5, q6, q7, q8⟩ := hres
          refine ⟨q1, q2, q3, q4, q5, fun q hq => ⟨by have := (q6 q hq).1; simp; omega, (q6 q hq).2⟩, fun j hj => q7 j (by simp at hj; omega), q8⟩
        · simp only [tmR]
          cases hd : o.dst with
          | none => simp only [putT, reduceCtorEq, and_false, if_false]; exact hT t
          | some d =>
            have hdl : d < fr.tm.length := by rw [hd] at hdst; exact dstOk_lt hdst
            rw [putT_get]
            by_cases e : d = t
            · subst e; simp [hdl]
            · simp only [e, false_and, if_false, Option.some.injEq, and_false]; exact hT t
        · show (fr.hp.merge out _).get x = _
          rw [get_merge]
          simp only [lookR]
          by_cases hx : x ∈ writes (fr.hp.only (touches fr.tm fr.hp o.op)) out
          · rw [if_pos (has_iff.2 hx), if_pos ⟨trivial, hx⟩]
          · rw [if_neg (fun h => hx (has_iff.1 h)), if_neg (fun h => hx h.2), hG]
        · rcases List.mem_cons.1 hq with rfl | hq
          · exact ⟨Nat.lt_succ_self _, Nat.le_refl _⟩
          · have := hup q hq
            exact ⟨by omega, Nat.le_trans this.2 hle⟩
        · by_cases e : j = i
          · exact ⟨_, List.mem_cons_self, e.symm⟩
          · obtain ⟨q, hq, hqi⟩ := hall j (by omega)
            exact ⟨q, List.mem_cons_of_mem _ hq, hqi⟩
        · rcases List.mem_cons.1 hp with rfl | hp
          · exact aheadOf_anc hbef hop (fun e he => by simpa using he) j hj
          · exact hbef p hp j hj
        · exact List.mem_append.2 (.inr (hlog m hm hml))
        · have h1 : n ∉ fr.hp.log := fun h => hnl (List.mem_append.2 (.inr h))
          have h2 : n ∉ writes (fr.hp.only (touches fr.tm fr.hp o.op)) out := fun h => hnl (List.mem_append.2 (.inl h))
          show (fr.hp.merge out _).get n = _
          rw [get_merge, if_neg (fun h => h2 (has_iff.1 h))]
          exact hsame n hn h1
    · cases h
end
end Go.Proofs.Ytcpkieahnkfpoaa.Ev
