/- Code and calls do what the evaluator says. -/
import Derived.Test.YtocfhiafegkfkaaGreatEvExec
import Derived.LoopN
import Derived.Laws.Sem
namespace Go.Proofs.YtocfhiafegkfkaaGreat.Ev
open Go Go.RowKit

theorem disj_iff {a b : List Nat} : disj a b = true ↔ ∀ x ∈ a, x ∉ b := by
  induction a with
  | nil => simp [disj]
  | cons x a ih =>
    simp only [disj]
    cases h : has x b
    · simp only [cond_false, ih, List.mem_cons, forall_eq_or_imp]
      have : x ∉ b := fun hx => by rw [has_iff.2 hx] at h; cases h
      simp [this]
    · simp only [cond_true]
      have := has_iff.1 h
      simp [this]

/-- The latest record that wrote a block, of those that D lets in. -/
def lookR : List Rec → (Nat → Bool) → Nat → Option Blk → Option Blk
  | [], _, _, b => b
  | r :: rs, D, x, b => if D r.i = true ∧ x ∈ r.wr then r.out.get x else lookR rs D x b
def tmR : List Rec → (Nat → Bool) → Nat → Value → Value
  | [], _, _, b => b
  | r :: rs, D, t, b => if D r.i = true ∧ r.o.dst = some t then r.v else tmR rs D t b
def hpR : List Rec → (Nat → Bool) → Hp → Hp
  | [], _, h => h
  | r :: rs, D, h => if D r.i = true then (hpR rs D h).merge r.out r.wr else hpR rs D h
theorem get_hpR (D : Nat → Bool) (h : Hp) (x : Nat) : ∀ rs, (hpR rs D h).get x = lookR rs D x (h.get x)
  | [] => rfl
  | r :: rs => by
    have ih := get_hpR D h x rs
    simp only [hpR, lookR]
    split
    · rename_i hd
      rw [get_merge]
      by_cases hx : x ∈ r.wr
      · rw [if_pos (has_iff.2 hx), if_pos ⟨hd, hx⟩]
      · rw [if_neg (fun h => hx (has_iff.1 h)), if_neg (fun h => hx h.2), ih]
    · rename_i hd
      rw [if_neg (fun h => hd h.1), ih]
theorem lookR_congr {D D' : Nat → Bool} {x : Nat} {b : Option Blk} : ∀ {rs : List Rec}, (∀ r ∈ rs, x ∈ r.wr → D r.i = D' r.i) → lookR rs D x b = lookR rs D' x b
  | [], _ => rfl
  | r :: rs, h => by
    have ih := lookR_congr (D := D) (D' := D') (x := x) (b := b) (rs := rs) (fun q hq => h q (List.mem_cons_of_mem _ hq))
    simp only [lookR, ih]
    by_cases hx : x ∈ r.wr
    · rw [h r List.mem_cons_self hx]
    · simp [hx]
theorem tmR_congr {D D' : Nat → Bool} {t : Nat} {b : Value} : ∀ {rs : List Rec}, (∀ r ∈ rs, r.o.dst = some t → D r.i = D' r.i) → tmR rs D t b = tmR rs D' t b
  | [], _ => rfl
  | r :: rs, h => by
    have ih := tmR_congr (D := D) (D' := D') (t := t) (b := b) (rs := rs) (fun q hq => h q (List.mem_cons_of_mem _ hq))
    simp only [tmR, ih]
    by_cases hx : r.o.dst = some t
    · rw [h r List.mem_cons_self hx]
    · simp [hx]

section
variable (E : Env) (cf : CallF) (ops : Array Oper) (tm0 : List Value) (hp0 : Hp)
/-- What is known of a record, of those ahead of it. -/
structure RecOk (rs : List Rec) (r : Rec) : Prop where
  run : ∃ (tm : List Value) (kn : Kn) (hp : Hp) (ds ds1 : List Dec) (pc : List Prop) (kn1 : Kn), (∀ t, tm.getD t undef = tmR rs (fun _ => true) t (tm0.getD t undef)) ∧ (∀ x, hp.get x = lookR rs (fun _ => true) x (hp0.get x)) ∧ KN tm kn ∧
    r.hin = hp.only r.rd ∧ doOper E cf ops tm kn r.hin ds r.o = some (r.v, r.out, ds1, pc, kn1) ∧ (∀ p ∈ pc, p)
  wr : r.wr = writes r.hin r.out
  op : ops[r.i]? = some r.o
  up : ∀ q ∈ rs, q.i < r.i ∧ q.out.next ≤ r.hin.next
  low : hp0.next ≤ r.hin.next
  le : r.hin.next ≤ r.out.next
  edges : ∀ e ∈ r.o.after, Region.binds .any e = true → e.on < r.i
  dst : ∀ d, r.o.dst = some d → d < tm0.length
def Recs : List Rec → Prop
  | [] => True
  | r :: rs => Recs rs ∧ RecOk E cf ops tm0 hp0 rs r
/-- Two records that are in no order keep apart; one that must come ahead is an ancestor by the edges. -/
inductive Anc (ops : Array Oper) : Nat → Nat → Prop
  | one {i j : Nat} {o : Oper} {e : Edge} : ops[j]? = some o → e ∈ o.after → Region.binds .any e = true → e.on = i → Anc ops i j
  | more {i j k : Nat} {o : Oper} {e : Edge} : ops[k]? = some o → e ∈ o.after → Region.binds .any e = true → e.on = j → Anc ops i j → Anc ops i k
def Pairs : List Rec → Prop
  | [] => True
  | r :: rs => Pairs rs ∧ ∀ q ∈ rs, Anc ops q.i r.i ∨ apartR ops q r = true
end

section
variable {E : Env} {cf : CallF} {ops : Array Oper} {tm0 : List Value} {hp0 : Hp}

theorem mem_addNames {n : Nat} : ∀ {l acc : List Nat}, n ∈ addNames l acc → n ∈ l ∨ n ∈ acc
  | [], acc, h => .inr h
  | m :: r, acc, h => by
    simp only [addNames] at h
    cases hm : has m acc
    · simp only [hm, cond_false] at h
      rcases mem_addNames h with h | h
      · exact .inl (List.mem_cons_of_mem _ h)
      · rcases List.mem_cons.1 h with rfl | h
        · exact .inl List.mem_cons_self
        · exact .inr h
    · simp only [hm, cond_true] at h
      rcases mem_addNames h with h | h
      · exact .inl (List.mem_cons_of_mem _ h)
      · exact .inr h
theorem aheadOf_anc {bef : List (Nat × List Nat)} (hb : ∀ p ∈ bef, ∀ i ∈ p.2, Anc ops i p.1) {k : Nat} {o : Oper} (ho : ops[k]? = some o) : ∀ {es : List Edge}, (∀ e ∈ es, e ∈ o.after) → ∀ i ∈ aheadOf bef es, Anc ops i k
  | [], _, i, hi => by simp [aheadOf] at hi
  | e :: es, h, i, hi => by
    have ih := aheadOf_anc hb ho (es := es) (fun e he => h e (List.mem_cons_of_mem _ he))
    simp only [aheadOf] at hi
    cases hbd : Region.binds .any e
    · simp only [hbd, cond_false] at hi
      exact ih i hi
    · simp only [hbd, cond_true] at hi
      rcases mem_addNames hi with hi | hi
      · rcases List.mem_cons.1 hi with rfl | hi
        · exact .one ho (h e List.mem_cons_self) hbd rfl
        · split at hi
          · rename_i p hp
            have hm := List.mem_of_find?_eq_some hp
            have heq : p.1 = e.on := beq_nat (by simpa using List.find?_some hp)
            exact .more ho (h e List.mem_cons_self) hbd heq.symm (hb p hm i hi)
          · simp at hi
      · exact ih i hi

theorem dstOk_lt {n d : Nat} (h : dstOk n (some d) = true) : d < n := Nat.lt_of_succ_le (by simpa [dstOk, Nat.blt] using h)
/-- What the evaluator's way through a region shows. -/
theorem doDraw_recs (hcf : CfOk E.P cf) (hE : EqsOk E) : ∀ (l : List Oper) (i : Nat) (kn : Kn) (fr : Fr) (bef : List (Nat × List Nat)) (rs : List Rec) (fr1 : Fr) (rs1 : List Rec),
    doDraw E cf ops l i kn fr bef rs = some (fr1, rs1) → (∀ k, l[k]? = ops[i + k]?) →
    (∀ p ∈ fr.pc, p ∈ fr1.pc) ∧ fr.hp.next ≤ fr1.hp.next ∧
    ((∀ p ∈ fr1.pc, p) → KN fr.tm kn → Recs E cf ops tm0 hp0 rs → Pairs ops rs → (∀ t, fr.tm.getD t undef = tmR rs (fun _ => true) t (tm0.getD t undef)) → fr.tm.length = tm0.length →
      (∀ x, fr.hp.get x = lookR rs (fun _ => true) x (hp0.get x)) → hp0.next ≤ fr.hp.next → (∀ q ∈ rs, q.i < i ∧ q.out.next ≤ fr.hp.next) → (∀ j, j < i → ∃ r ∈ rs, r.i = j) → (∀ p ∈ bef, ∀ j ∈ p.2, Anc ops j p.1) →
      (∀ m, m < hp0.next → m ∈ hp0.log → m ∈ fr.hp.log) → (∀ n, n < hp0.next → n ∉ fr.hp.log → fr.hp.get n = hp0.get n) →
      Recs E cf ops tm0 hp0 rs1 ∧ Pairs ops rs1 ∧ (∀ t, fr1.tm.getD t undef = tmR rs1 (fun _ => true) t (tm0.getD t undef)) ∧ fr1.tm.length = tm0.length ∧
      (∀ x, fr1.hp.get x = lookR rs1 (fun _ => true) x (hp0.get x)) ∧ (∀ q ∈ rs1, q.i < i + l.length ∧ q.out.next ≤ fr1.hp.next) ∧ (∀ j, j < i + l.length → ∃ r ∈ rs1, r.i = j) ∧ Keep hp0 fr1.hp)
  | [], i, kn, fr, bef, rs, fr1, rs1, h, _ => by
    simp only [doDraw, Option.some.injEq, Prod.mk.injEq] at h
    obtain ⟨rfl, rfl⟩ := h
    refine ⟨fun _ hp => hp, Nat.le_refl _, fun _ _ h1 h2 h3 h4 h5 h6 h7 h8 _ h10 h11 => ⟨h1, h2, h3, h4, h5, ?_, ?_, ⟨h6, h10, h11⟩⟩⟩
    · simpa using h7
    · simpa using h8
  | o :: rest, i, kn, fr, bef, rs, fr1, rs1, h, hl => by
    simp only [doDraw] at h
    split at h
    · rename_i v out ds pc kn' ho
      obtain ⟨r, hr⟩ : ∃ r : Rec, r = ⟨i, o, touches fr.tm fr.hp o.op, writes (fr.hp.only (touches fr.tm fr.hp o.op)) out, fr.hp.only (touches fr.tm fr.hp o.op), out, v⟩ := ⟨_, rfl⟩
      rw [← hr] at h
      cases hck : drawOk ops rs r (aheadOf bef o.after.toList) fr.tm.length
      · rw [hck] at h
        cases h
      · rw [hck] at h
        replace h : doDraw E cf ops rest (i + 1) (putK kn' o.dst) ⟨putT fr.tm o.dst v, fr.hp.merge out (writes (fr.hp.only (touches fr.tm fr.hp o.op)) out), ds, fr.pc ++ pc⟩ ((i, aheadOf bef o.after.toList) :: bef) (r :: rs) = some (fr1, rs1) := h
        have hl' : ∀ k, rest[k]? = ops[i + 1 + k]? := fun k => by
          have := hl (k + 1)
          simp only [List.getElem?_cons_succ] at this
          rw [this]
          congr 1
          omega
        obtain ⟨ih1, ih2, ih3⟩ := doDraw_recs hcf hE rest (i + 1) _ _ _ _ _ _ h hl'
        have hop : ops[i]? = some o := by have := hl 0; simpa using this.symm
        have hkeep := doOper_keep hcf ho
        have hle : fr.hp.next ≤ out.next := hkeep.le
        subst hr
        simp only [drawOk, Bool.and_eq_true, List.all_eq_true] at hck
        obtain ⟨⟨hpairs, hedges⟩, hdst⟩ := hck
        refine ⟨fun p hp => ih1 p (List.mem_append.2 (.inl hp)), Nat.le_trans hle ih2, fun hpc hk hR hP hT hlen hG hlow hup hall hbef hlog hsame => ?_⟩
        have hpc' : ∀ p ∈ pc, p := fun p hp => hpc p (ih1 p (List.mem_append.2 (.inr hp)))
        have hkn' : KN fr.tm kn' := by
          have := doOper_kn ho hpc' hk
          exact this
        have hok : RecOk E cf ops tm0 hp0 rs ⟨i, o, touches fr.tm fr.hp o.op, writes (fr.hp.only (touches fr.tm fr.hp o.op)) out, fr.hp.only (touches fr.tm fr.hp o.op), out, v⟩ :=
          { run := ⟨fr.tm, kn, fr.hp, fr.ds, ds, pc, kn', hT, hG, hk, rfl, ho, hpc'⟩
            wr := rfl
            op := hop
            up := hup
            low := hlow
            le := hle
            edges := fun e he hb => by
              have := hedges e (by simpa using he)
              rw [hb] at this
              simp [Nat.blt] at this
              show e.on < i
              omega
            dst := fun d hd => by
              have hd' : o.dst = some d := hd
              rw [hd'] at hdst
              exact hlen ▸ dstOk_lt hdst }
        have hwr : ∀ x, x ∈ writes (fr.hp.only (touches fr.tm fr.hp o.op)) out ↔ x ∈ out.log ∨ x ∈ newKeys fr.hp.next out.blks := fun x => by simp [writes, Hp.only]
        have hres := ih3 hpc (hkn'.put o.dst v) ⟨hR, hok⟩ ⟨hP, fun q hq => by
            have := hpairs q hq
            simp only [Bool.or_eq_true] at this
            rcases this with h1 | h1
            · exact .inl (aheadOf_anc hbef hop (fun e he => by simpa using he) _ (has_iff.1 h1))
            · exact .inr h1⟩ (fun t => ?_) (by rw [putT_length, hlen]) (fun x => ?_) (Nat.le_trans hlow hle) (fun q hq => ?_) (fun j hj => ?_) (fun p hp j hj => ?_) (fun m hm hml => ?_) (fun n hn hnl => ?_)
        · obtain ⟨q1, q2, q3, q4, q5, q6, q7, q8⟩ := hres
          refine ⟨q1, q2, q3, q4, q5, fun q hq => ⟨by have := (q6 q hq).1; simp; omega, (q6 q hq).2⟩, fun j hj => q7 j (by simp at hj; omega), q8⟩
        · simp only [tmR]
          cases hd : o.dst with
          | none => simp only [putT, reduceCtorEq, and_false, if_false]; exact hT t
          | some d =>
            have hdl : d < fr.tm.length := by rw [hd] at hdst; exact dstOk_lt hdst
            rw [putT_get]
            by_cases e : d = t
            · subst e; simp [hdl]
            · simp only [e, false_and, if_false, Option.some.injEq, and_false]; exact hT t
        · show (fr.hp.merge out _).get x = _
          rw [get_merge]
          simp only [lookR]
          by_cases hx : x ∈ writes (fr.hp.only (touches fr.tm fr.hp o.op)) out
          · rw [if_pos (has_iff.2 hx), if_pos ⟨trivial, hx⟩]
          · rw [if_neg (fun h => hx (has_iff.1 h)), if_neg (fun h => hx h.2), hG]
        · rcases List.mem_cons.1 hq with rfl | hq
          · exact ⟨Nat.lt_succ_self _, Nat.le_refl _⟩
          · have := hup q hq
            exact ⟨by omega, Nat.le_trans this.2 hle⟩
        · by_cases e : j = i
          · exact ⟨_, List.mem_cons_self, e.symm⟩
          · obtain ⟨q, hq, hqi⟩ := hall j (by omega)
            exact ⟨q, List.mem_cons_of_mem _ hq, hqi⟩
        · rcases List.mem_cons.1 hp with rfl | hp
          · exact aheadOf_anc hbef hop (fun e he => by simpa using he) j hj
          · exact hbef p hp j hj
        · exact List.mem_append.2 (.inr (hlog m hm hml))
        · have h1 : n ∉ fr.hp.log := fun h => hnl (List.mem_append.2 (.inr h))
          have h2 : n ∉ writes (fr.hp.only (touches fr.tm fr.hp o.op)) out := fun h => hnl (List.mem_append.2 (.inl h))
          show (fr.hp.merge out _).get n = _
          rw [get_merge, if_neg (fun h => h2 (has_iff.1 h))]
          exact hsame n hn h1
    · cases h
end
end Go.Proofs.YtocfhiafegkfkaaGreat.Ev
namespace Go.Proofs.YtocfhiafegkfkaaGreat.Ev
open Go Go.RowKit

theorem mem_newKeys {n m : Nat} {l : List (Nat × Blk)} : m ∈ newKeys n l → n ≤ m := by
  induction l with
  | nil => simp [newKeys]
  | cons p r ih =>
    obtain ⟨k, b⟩ := p
    simp only [newKeys]
    cases hk : Nat.ble n k
    · simp only [cond_false]; exact ih
    · simp only [cond_true, List.mem_cons]
      rintro (rfl | h)
      · simpa using hk
      · exact ih h
theorem newKeys_mem {n m : Nat} : ∀ {l : List (Nat × Blk)} {b : Blk}, lookB m l = some b → n ≤ m → m ∈ newKeys n l
  | [], _, h, _ => by simp [lookB] at h
  | (k, c) :: r, b, h, hn => by
    simp only [lookB] at h
    simp only [newKeys]
    cases hk : Nat.beq k m
    · simp only [hk, cond_false] at h
      have ih := newKeys_mem h hn
      cases Nat.ble n k
      · exact ih
      · exact List.mem_cons_of_mem _ ih
    · have := beq_nat hk
      subst this
      have : Nat.ble n k = true := by simpa using hn
      rw [this]
      simp

section
variable {E : Env} {cf : CallF} {ops : Array Oper} {tm0 : List Value} {hp0 : Hp}

/-- A record is known of those ahead of it, wherever it stands. -/
theorem Recs.at_ {rs : List Rec} (h : Recs E cf ops tm0 hp0 rs) : ∀ r ∈ rs, ∃ pre post, rs = post ++ r :: pre ∧ RecOk E cf ops tm0 hp0 pre r := by
  induction rs with
  | nil => intro r hr; simp at hr
  | cons q rs ih =>
    intro r hr
    rcases List.mem_cons.1 hr with rfl | hr
    · exact ⟨rs, [], rfl, h.2⟩
    · obtain ⟨pre, post, e, ho⟩ := ih h.1 r hr
      exact ⟨pre, q :: post, by rw [e]; rfl, ho⟩
theorem Recs.post {pre post : List Rec} {r : Rec} (h : Recs E cf ops tm0 hp0 (post ++ r :: pre)) : ∀ q ∈ post, r.i < q.i ∧ r.out.next ≤ q.hin.next := by
  induction post with
  | nil => intro q hq; simp at hq
  | cons p post ih =>
    intro q hq
    rcases List.mem_cons.1 hq with rfl | hq
    · exact (h.2.up r (by simp))
    · exact ih h.1 q hq
theorem Recs.pre {pre post : List Rec} {r : Rec} (h : Recs E cf ops tm0 hp0 (post ++ r :: pre)) : ∀ q ∈ pre, q.i < r.i ∧ q.out.next ≤ r.hin.next := by
  induction post with
  | nil => exact h.2.up
  | cons p post ih => exact ih h.1

theorem apart_parts {x y : Rec} (h : apartR ops x y = true) : Oper.apart ops x.o y.o = true ∧ (∀ n ∈ x.wr, n ∉ y.rd) ∧ (∀ n ∈ x.wr, n ∉ y.wr) ∧ (∀ n ∈ y.wr, n ∉ x.rd) := by
  simp only [apartR, Bool.and_eq_true, disj_iff] at h
  exact ⟨h.1.1.1, h.1.1.2, h.1.2, h.2⟩
theorem Pairs.get {rs : List Rec} (h : Pairs ops rs) {pre post : List Rec} {r : Rec} (e : rs = post ++ r :: pre) : (∀ q ∈ pre, Anc ops q.i r.i ∨ apartR ops q r = true) ∧ (∀ q ∈ post, Anc ops r.i q.i ∨ apartR ops r q = true) := by
  subst e
  induction post with
  | nil => exact ⟨h.2, fun q hq => by simp at hq⟩
  | cons p post ih =>
    refine ⟨(ih h.1).1, fun q hq => ?_⟩
    rcases List.mem_cons.1 hq with rfl | hq
    · exact h.2 r (by simp)
    · exact (ih h.1).2 q hq

theorem lookR_post {D : Nat → Bool} {x : Nat} {b : Option Blk} {l : List Rec} : ∀ {post : List Rec}, (∀ q ∈ post, D q.i = false) → lookR (post ++ l) D x b = lookR l D x b
  | [], _ => rfl
  | p :: post, h => by
    simp only [List.cons_append, lookR]
    rw [if_neg (by simp [h p List.mem_cons_self])]
    exact lookR_post fun q hq => h q (List.mem_cons_of_mem _ hq)
theorem tmR_post {D : Nat → Bool} {x : Nat} {b : Value} {l : List Rec} : ∀ {post : List Rec}, (∀ q ∈ post, D q.i = false) → tmR (post ++ l) D x b = tmR l D x b
  | [], _ => rfl
  | p :: post, h => by
    simp only [List.cons_append, tmR]
    rw [if_neg (by simp [h p List.mem_cons_self])]
    exact tmR_post fun q hq => h q (List.mem_cons_of_mem _ hq)
/-- What has been done is closed under what must come ahead. -/
def Closed (ops : Array Oper) (D : Nat → Bool) : Prop := ∀ (j : Nat) (o : Oper), ops[j]? = some o → D j = true → ∀ e ∈ o.after, Region.binds .any e = true → D e.on = true
theorem Closed.anc {D : Nat → Bool} (h : Closed ops D) {i j : Nat} (ha : Anc ops i j) : D j = true → D i = true := by
  induction ha with
  | one ho he hb hi => intro hj; subst hi; exact h _ _ ho hj _ he hb
  | more ho he hb hi _ ih => intro hj; subst hi; exact ih (h _ _ ho hj _ he hb)

structure DInv (ops : Array Oper) (tm0 : List Value) (hp0 : Hp) (rs : List Rec) (S0 : Nat → Prop) (ρ0 : Nat → Nat) (w0 : World) (D : Nat → Bool) (a : Act) (w : World) : Prop where
  closed : Closed ops D
  size : a.tmps.size = tm0.length
  defers : a.defers = []
  ex : ∃ ρ, Ag S0 ρ0 ρ ∧ (∀ t, VRd (fun k => S0 k ∨ ∃ r ∈ rs, D r.i = true ∧ r.hin.next ≤ k ∧ k < r.out.next) ρ (tmR rs D t (tm0.getD t undef)) (a.tmps.getD t undef)) ∧
    HR (fun k => S0 k ∨ ∃ r ∈ rs, D r.i = true ∧ r.hin.next ≤ k ∧ k < r.out.next) ρ (hpR rs D hp0) w ∧ FR ρ0 ρ hp0 (hpR rs D hp0) w0 w

theorem draw_step (hE : EqsOk E) (hcf : CfOk E.P cf) {rs : List Rec} (hR : Recs E cf ops tm0 hp0 rs) (hP : Pairs ops rs) {S0 : Nat → Prop} {ρ0 : Nat → Nat} {w0 : World} {top : Nat}
    (hS0 : ∀ k, hp0.next ≤ k → k < top → ¬ S0 k) (htop : ∀ r ∈ rs, r.out.next ≤ top) {D : Nat → Bool} {a : Act} {w : World} (h : DInv ops tm0 hp0 rs S0 ρ0 w0 D a w) {r : Rec} (hr : r ∈ rs) (hDr : D r.i = false)
    (hready : ∀ e ∈ r.o.after, Region.binds .any e = true → D e.on = true) (K : Act → World → Prop) (Q : Exit → Act → World → Prop)
    (hK : ∀ u w1, DInv ops tm0 hp0 rs S0 ρ0 w0 (fun j => D j || j == r.i) (a.put r.o.dst u) w1 → K (a.put r.o.dst u) w1) : wpOp E.P ops Q r.i K a w := by
  obtain ⟨pre, post, erp, hok⟩ := hR.at_ r hr
  obtain ⟨tm, kn, hp, ds, ds1, pc, kn1, htm, hget, hkn, hhin, hrun, hpc⟩ := hok.run
  obtain ⟨hcl, hsz, hdf, ρ, hag, hT, hH, hFR⟩ := h
  have hpre : ∀ q ∈ pre, q.i < r.i ∧ q.out.next ≤ r.hin.next := Recs.pre (erp ▸ hR)
  have hpost : ∀ q ∈ post, r.i < q.i ∧ r.out.next ≤ q.hin.next := Recs.post (erp ▸ hR)
  obtain ⟨hp1, hp2⟩ := hP.get erp
  have hinpre : ∀ q ∈ pre, q ∈ rs := fun q hq => by rw [erp]; simp [hq]
  have hinpost : ∀ q ∈ post, q ∈ rs := fun q hq => by rw [erp]; simp [hq]
  have hopq : ∀ q ∈ rs, ops[q.i]? = some q.o := fun q hq => by obtain ⟨_, _, _, hq'⟩ := hR.at_ q hq; exact hq'.op
  -- what must come ahead of r has been done
  have hancD : ∀ {i j : Nat}, Anc ops i j → j = r.i → D i = true := fun {i j} ha hj => by
    subst hj
    cases ha with
    | one ho he hb hi =>
      rw [hok.op] at ho
      obtain rfl := Option.some.inj ho
      subst hi
      exact hready _ he hb
    | more ho he hb hi ha' =>
      rw [hok.op] at ho
      obtain rfl := Option.some.inj ho
      subst hi
      exact hcl.anc ha' (hready _ he hb)
  -- what meets r has been done just if it stands ahead of it
  have hmeet : ∀ q ∈ rs, q ≠ r → (apartR ops q r = true → q ∈ pre → False) → (apartR ops r q = true → q ∈ post → False) → D q.i = decide (q.i < r.i) := fun q hq hne h1 h2 => by
    rw [erp] at hq
    rcases List.mem_append.1 hq with hq | hq
    · have hlt := (hpost q hq).1
      have hd : ¬ D q.i = true := fun hd => by
        rcases hp2 q hq with ha | ha
        · have := hcl.anc ha hd
          rw [hDr] at this; cases this
        · exact h2 ha hq
      rw [show decide (q.i < r.i) = false from by simp; omega]
      simpa using hd
    · rcases List.mem_cons.1 hq with rfl | hq
      · exact absurd rfl hne
      · have hlt := (hpre q hq).1
        rw [show decide (q.i < r.i) = true from by simpa using hlt]
        rcases hp1 q hq with ha | ha
        · exact hancD ha rfl
        · exact (h1 ha hq).elim
  have hsplit : ∀ {f : Rec → Prop}, (∀ q ∈ rs, f q → q ≠ r → D q.i = decide (q.i < r.i)) → ∀ q ∈ rs, f q → D q.i = (decide (q.i < r.i)) := fun {f} hf q hq hfq => by
    by_cases e : q = r
    · subst e; simp [hDr]
    · exact hf q hq hfq e
  -- the records up to r, as they stand in the text
  have htmr : ∀ t, tmR rs (fun j => decide (j < r.i)) t (tm0.getD t undef) = tm.getD t undef := fun t => by
    rw [htm, erp]
    rw [tmR_post fun q hq => by have := (hpost q hq).1; simp; omega, tmR, if_neg (by simp)]
    exact tmR_congr fun q hq _ => by simpa using (hpre q hq).1
  have hlookr : ∀ x, lookR rs (fun j => decide (j < r.i)) x (hp0.get x) = hp.get x := fun x => by
    rw [hget, erp]
    rw [lookR_post fun q hq => by have := (hpost q hq).1; simp; omega, lookR, if_neg (by simp)]
    exact lookR_congr fun q hq _ => by simpa using (hpre q hq).1
  -- temporaries that r looks at
  have hTL : TL (fun k => S0 k ∨ ∃ r ∈ rs, D r.i = true ∧ r.hin.next ≤ k ∧ k < r.out.next) ρ tm a (r.o.looksAt ops) := fun t ht => by
    have e : tmR rs D t (tm0.getD t undef) = tm.getD t undef := by
      rw [← htmr t]
      exact tmR_congr (hsplit (f := fun q => q.o.dst = some t) fun q hq hd hne => hmeet q hq hne
        (fun ha _ => ((Oper.apart_spec (apart_parts ha).1).1 t hd) ht) (fun ha _ => ((Oper.apart_spec (apart_parts ha).1).2.2 t hd) ht))
    rw [← e]
    exact hT t
  have hrd : ∀ x b, r.hin.get x = some b → x ∈ r.rd ∧ hp.get x = some b := fun x b hb => by
    rw [hhin] at hb
    exact (get_only hb).2
  have hlow : ∀ x b, r.hin.get x = some b → x < r.hin.next := fun x b hb => by
    rw [hhin] at hb ⊢
    exact (get_only hb).1
  have hD : ∀ x, x ∈ r.rd → (hpR rs D hp0).get x = hp.get x := fun x hx => by
    rw [get_hpR, ← hlookr x]
    exact lookR_congr (hsplit (f := fun q => x ∈ q.wr) fun q hq hd hne => hmeet q hq hne (fun ha _ => (apart_parts ha).2.1 x hd hx) (fun ha _ => (apart_parts ha).2.2.2 x hd hx))
  have hHr := hH.less (hp' := r.hin) (fun x b hb => by
    obtain ⟨h1, h2⟩ := hrd x b hb
    rw [hD x h1]; exact h2)
  have hkeep := doOper_keep hcf hrun
  have hNF : NF (fun k => S0 k ∨ ∃ r ∈ rs, D r.i = true ∧ r.hin.next ≤ k ∧ k < r.out.next) r.hin r.out := fun k h1 h2 hs => by
    rcases hs with hs | ⟨q, hq, hdq, h3, h4⟩
    · exact hS0 k (Nat.le_trans hok.low h1) (Nat.lt_of_lt_of_le h2 (htop r hr)) hs
    · rw [erp] at hq
      rcases List.mem_append.1 hq with hq | hq
      · have := (hpost q hq).2; omega
      · rcases List.mem_cons.1 hq with rfl | hq
        · rw [hDr] at hdq; cases hdq
        · have := (hpre q hq).2; omega
  obtain ⟨_, hstep⟩ := doOper_sound (a := a) (w := w) hE hcf hrun hpc hkn hTL hHr hNF
  have hgoal := hstep K Q (fun u w1 hres => hK u w1 ?_)
  · unfold wpOp
    rw [hok.op]
    exact hgoal
  obtain ⟨ρ1, a1, a2, a3, a4⟩ := hres
  -- behind it
  have hS' : ∀ k, SN (fun k => S0 k ∨ ∃ r ∈ rs, D r.i = true ∧ r.hin.next ≤ k ∧ k < r.out.next) r.hin r.out k → (S0 k ∨ ∃ q ∈ rs, (D q.i || q.i == r.i) = true ∧ q.hin.next ≤ k ∧ k < q.out.next) := fun k hk => by
    rcases hk with (hk | ⟨q, hq, h1, h2⟩) | hk
    · exact .inl hk
    · exact .inr ⟨q, hq, by simp [h1], h2⟩
    · exact .inr ⟨r, hr, by simp, hk⟩
  have hself : ∀ q ∈ rs, q.i = r.i → q = r := fun q hq e => by
    rw [erp] at hq
    rcases List.mem_append.1 hq with hq | hq
    · have := (hpost q hq).1; omega
    · rcases List.mem_cons.1 hq with rfl | hq
      · rfl
      · have := (hpre q hq).1; omega
  have hwr : ∀ x, x ∈ r.wr → lookR rs (fun j => D j || j == r.i) x (hp0.get x) = r.out.get x := fun x hx => by
    have e : lookR rs (fun j => D j || j == r.i) x (hp0.get x) = lookR rs (fun j => decide (j ≤ r.i)) x (hp0.get x) := lookR_congr fun q hq hqx => by
      by_cases eq : q = r
      · subst eq; simp
      · have hni : q.i ≠ r.i := fun e => eq (hself q hq e)
        have := hmeet q hq eq (fun ha _ => (apart_parts ha).2.2.1 x hqx hx) (fun ha _ => (apart_parts ha).2.2.1 x hx hqx)
        show (D q.i || q.i == r.i) = decide (q.i ≤ r.i)
        rw [this, beq_false_of_ne hni, Bool.or_false, decide_eq_decide]
        omega
    rw [e, erp, lookR_post fun q hq => by have := (hpost q hq).1; simp; omega, lookR, if_pos (by simp [hx])]
  have hnwr : ∀ x, x ∉ r.wr → (hpR rs (fun j => D j || j == r.i) hp0).get x = (hpR rs D hp0).get x := fun x hx => by
    rw [get_hpR, get_hpR]
    exact lookR_congr fun q hq hqx => by
      have : q ≠ r := fun e => hx (e ▸ hqx)
      have hni : q.i ≠ r.i := fun e => this (hself q hq e)
      simp [hni]
  -- where each block of the new heap is told
  have hwhere : ∀ x b, (hpR rs (fun j => D j || j == r.i) hp0).get x = some b → r.out.get x = some b ∨ (r.hin.get x = none ∧ r.out.get x = none ∧ (hpR rs D hp0).get x = some b) := fun x b hb => by
    by_cases hx : x ∈ r.wr
    · rw [get_hpR, hwr x hx] at hb
      exact .inl hb
    · rw [hnwr x hx] at hb
      have hlog : x ∉ r.out.log ∧ x ∉ newKeys r.hin.next r.out.blks := by
        rw [hok.wr] at hx
        simp only [writes, List.mem_append, not_or] at hx
        exact hx
      by_cases hlt : x < r.hin.next
      · have hs := hkeep.same x hlt hlog.1
        cases hq : r.hin.get x with
        | none => exact .inr ⟨rfl, by rw [hs, hq], hb⟩
        | some c =>
          obtain ⟨h1, h2⟩ := hrd x c hq
          rw [hD x h1, h2] at hb
          obtain rfl := Option.some.inj hb
          exact .inl (by rw [hs, hq])
      · have hno : r.out.get x = none := by
          cases hq : r.out.get x with
          | none => rfl
          | some c => exact absurd (newKeys_mem hq (by omega)) hlog.2
        cases hq : r.hin.get x with
        | none => exact .inr ⟨rfl, hno, hb⟩
        | some c => exact absurd (hlow x c hq) hlt
  -- the temporary that it fills
  have htd : ∀ d, r.o.dst = some d → tmR rs (fun j => D j || j == r.i) d (tm0.getD d undef) = r.v := fun d hd => by
    have e : tmR rs (fun j => D j || j == r.i) d (tm0.getD d undef) = tmR rs (fun j => decide (j ≤ r.i)) d (tm0.getD d undef) := tmR_congr fun q hq hqd => by
      by_cases eq : q = r
      · subst eq; simp
      · have hni : q.i ≠ r.i := fun e => eq (hself q hq e)
        have := hmeet q hq eq (fun ha _ => (Oper.apart_spec (apart_parts ha).1).2.1 d hqd hd) (fun ha _ => (Oper.apart_spec (apart_parts ha).1).2.1 d hd hqd)
        show (D q.i || q.i == r.i) = decide (q.i ≤ r.i)
        rw [this, beq_false_of_ne hni, Bool.or_false, decide_eq_decide]
        omega
    rw [e, erp, tmR_post fun q hq => by have := (hpost q hq).1; simp; omega, tmR, if_pos (by simp [hd])]
  have htn : ∀ t, r.o.dst ≠ some t → tmR rs (fun j => D j || j == r.i) t (tm0.getD t undef) = tmR rs D t (tm0.getD t undef) := fun t ht => tmR_congr fun q hq hqt => by
    have : q ≠ r := fun e => ht (e ▸ hqt)
    have hni : q.i ≠ r.i := fun e => this (hself q hq e)
    simp [hni]
  have hSup : ∀ k, (S0 k ∨ ∃ q ∈ rs, D q.i = true ∧ q.hin.next ≤ k ∧ k < q.out.next) → (S0 k ∨ ∃ q ∈ rs, (D q.i || q.i == r.i) = true ∧ q.hin.next ≤ k ∧ k < q.out.next) := fun k hk => by
    rcases hk with hk | ⟨q, hq, h1, h2⟩
    · exact .inl hk
    · exact .inr ⟨q, hq, by simp [h1], h2⟩
  have hinD : ∀ x b, r.hin.get x = some b → (hpR rs D hp0).get x = some b := fun x b hb => by
    obtain ⟨h1, h2⟩ := hrd x b hb
    rw [hD x h1]; exact h2
  have hold : ∀ x b, (hpR rs D hp0).get x = some b → ρ1 x = ρ x := fun x b hb => a1 x (hH.dom x b hb)
  have hfar : ∀ x b, (hpR rs D hp0).get x = some b → b.pres = true → r.hin.get x = none → w1.heap[ρ x]? = w.heap[ρ x]? := fun x b hb hbp hn =>
    a4.old _ (hH.lt hb hbp) fun n c hc hv he => by
      rcases hH.inj n x c b (hinD n c hc) hb (Blk.pres_of hv) hbp he with h | ⟨h, _⟩
      · subst h
        rw [hn] at hc; cases hc
      · rw [hv] at h; cases h
  have hmix : ∀ x y b c, r.out.get x = some b → (hpR rs D hp0).get y = some c → r.hin.get y = none → b.pres = true → c.pres = true → ρ1 x = ρ1 y → b.isV = true ∧ c.isV = true := fun x y b c hx hy hn hbp hcp he => by
    rw [hold y c hy] at he
    rcases a4.new x b hx hbp with ⟨m, d, hm, hdp, hv, e⟩ | e
    · rcases hH.inj m y d c (hinD m d hm) hy hdp hcp (e.symm.trans he) with h | h
      · subst h
        rw [hn] at hm; cases hm
      · rw [hv] at h; exact h
    · have := hH.lt hy hcp
      omega
  refine ⟨fun j o ho hj e he hb => ?_, by rw [put_size, hsz], ?_, ρ1, fun k hk => (a1 k (.inl hk)).trans (hag k hk), fun t => ?_, ⟨fun ρ' ha x b hb hbp => ?_, fun x b hb => ?_, fun x y b c hb hc hbp hcp he => ?_⟩, hFR.trans ⟨a4.os, a4.tape, a4.output, a4.size, fun k hk hn => a4.old k hk fun n b hb => hn n b (hinD n b hb), fun x b hb hbp => ?_⟩⟩
  · show (D e.on || e.on == r.i) = true
    have hj' : (D j || j == r.i) = true := hj
    simp only [Bool.or_eq_true, beq_iff_eq] at hj'
    rcases hj' with hj' | rfl
    · simp [hcl j o ho hj' e he hb]
    · rw [hok.op] at ho
      obtain rfl := Option.some.inj ho
      simp [hready e he hb]
  · cases hd : r.o.dst with
    | none => exact hdf
    | some d => exact hdf
  · by_cases hd : r.o.dst = some t
    · rw [htd t hd, hd, put_get, if_pos ⟨rfl, by rw [hsz]; exact hok.dst t hd⟩]
      exact .inr (a3.up hS' (Ag.refl _ _))
    · rw [htn t hd]
      have : (a.put r.o.dst u).tmps.getD t undef = a.tmps.getD t undef := by
        cases hd' : r.o.dst with
        | none => rfl
        | some d => rw [put_get, if_neg (fun e => hd (by rw [hd', e.1]))]
      rw [this]
      exact (hT t).up hSup a1
  · rcases hwhere x b hb with hb | ⟨hn, _, hb⟩
    · exact a2.sat ρ' (fun k hk => ha k (hS' k hk)) x b hb hbp
    · obtain ⟨o, ho, hs⟩ := hH.sat ρ' (fun k hk => (ha k (hSup k hk)).trans (a1 k hk)) x b hb hbp
      exact ⟨o, by rw [hold x b hb, hfar x b hb hbp hn]; exact ho, hs⟩
  · rcases hwhere x b hb with hb | ⟨hn, _, hb⟩
    · exact hS' x (a2.dom x b hb)
    · exact hSup x (hH.dom x b hb)
  · rcases hwhere x b hb with hb | ⟨hn, _, hb⟩ <;> rcases hwhere y c hc with hc | ⟨hn', _, hc⟩
    · exact a2.inj x y b c hb hc hbp hcp he
    · exact .inr (hmix x y b c hb hc hn' hbp hcp he)
    · exact .inr (hmix y x c b hc hb hn hcp hbp he.symm).symm
    · rw [hold x b hb, hold y c hc] at he
      exact hH.inj x y b c hb hc hbp hcp he
  · rcases hwhere x b hb with hb | ⟨hn, _, hb⟩
    · rcases a4.new x b hb hbp with ⟨m, c, hm, hcp, hv, e⟩ | e
      · exact .inl ⟨m, c, hinD m c hm, hcp, hv, e⟩
      · exact .inr e
    · exact .inl ⟨x, b, hb, hbp, rfl, hold x b hb⟩
end
end Go.Proofs.YtocfhiafegkfkaaGreat.Ev
namespace Go.Proofs.YtocfhiafegkfkaaGreat.Ev
open Go Go.RowKit

theorem Keep.merge {h hin out : Hp} {wr : List Nat} (hn : hin.next = h.next) (hk : Keep hin out) : Keep h (h.merge out wr) :=
  ⟨hn ▸ hk.le, fun _ _ hl => List.mem_append.2 (.inr hl), fun n _ hl => by
    rw [get_merge, if_neg (fun hx => hl (List.mem_append.2 (.inl (has_iff.1 hx))))]⟩

def undone (D : Nat → Bool) : Nat → Nat
  | 0 => 0
  | n + 1 => undone D n + (if D n = true then 0 else 1)
theorem undone_set {D : Nat → Bool} {i : Nat} (hD : D i = false) : ∀ {n : Nat}, undone (fun j => D j || j == i) n + (if i < n then 1 else 0) = undone D n
  | 0 => rfl
  | n + 1 => by
    have ih := undone_set (D := D) hD (n := n)
    simp only [undone]
    by_cases e : n = i
    · subst e
      rw [if_neg (Nat.lt_irrefl _)] at ih
      simp [hD]
      omega
    · have hb : (if (D n || n == i) = true then 0 else 1) = (if D n = true then 0 else 1) := by
        have : (n == i) = false := by simpa using e
        simp only [this, Bool.or_false]
      rw [hb]
      by_cases hl : i < n
      · rw [if_pos hl] at ih
        rw [if_pos (show i < n + 1 by omega)]
        omega
      · rw [if_neg hl] at ih
        rw [if_neg (show ¬ i < n + 1 by omega)]
        omega
theorem undone_zero {D : Nat → Bool} : ∀ {n : Nat}, undone D n = 0 → ∀ j, j < n → D j = true
  | 0, _, j, hj => by omega
  | n + 1, h, j, hj => by
    simp only [undone] at h
    by_cases hd : D n = true
    · by_cases e : j = n
      · rw [e]; exact hd
      · exact undone_zero (n := n) (by omega) j (by omega)
    · rw [if_neg hd] at h; omega
theorem undone_le {D : Nat → Bool} : ∀ {n : Nat}, undone D n ≤ n
  | 0 => Nat.le_refl _
  | n + 1 => by
    have := undone_le (D := D) (n := n)
    simp only [undone]
    split <;> omega

section
variable {E : Env} {cf : CallF} {ops : Array Oper}

theorem doDraw_keep (hcf : CfOk E.P cf) : ∀ (l : List Oper) (i : Nat) (kn : Kn) (fr : Fr) (bef : List (Nat × List Nat)) (rs : List Rec) (fr1 : Fr) (rs1 : List Rec),
    doDraw E cf ops l i kn fr bef rs = some (fr1, rs1) → Keep fr.hp fr1.hp
  | [], i, kn, fr, bef, rs, fr1, rs1, h => by
    simp only [doDraw, Option.some.injEq, Prod.mk.injEq] at h
    obtain ⟨rfl, rfl⟩ := h
    exact Keep.refl _
  | o :: rest, i, kn, fr, bef, rs, fr1, rs1, h => by
    simp only [doDraw] at h
    split at h
    · rename_i v out ds pc kn' ho
      obtain ⟨r, hr⟩ : ∃ r : Rec, r = ⟨i, o, touches fr.tm fr.hp o.op, writes (fr.hp.only (touches fr.tm fr.hp o.op)) out, fr.hp.only (touches fr.tm fr.hp o.op), out, v⟩ := ⟨_, rfl⟩
      rw [← hr] at h
      cases hck : drawOk ops rs r (aheadOf bef o.after.toList) fr.tm.length
      · rw [hck] at h
        cases h
      · rw [hck] at h
        have ih := doDraw_keep hcf rest _ _ _ _ _ _ _ h
        have hk := Keep.merge (h := fr.hp) (hin := fr.hp.only (touches fr.tm fr.hp o.op)) (wr := writes (fr.hp.only (touches fr.tm fr.hp o.op)) out) rfl (doOper_keep hcf ho)
        exact hk.trans ih
    · cases h

theorem doDraw_sound (hm : E.P.follows .mixedOrders = true) (hE : EqsOk E) (hcf : CfOk E.P cf) {id : Nat} {fr fr1 : Fr} {rs : List Rec} (h : doDraw E cf ops ops.toList 0 [] fr [] [] = some (fr1, rs)) :
    Keep fr.hp fr1.hp ∧ (∀ p ∈ fr.pc, p ∈ fr1.pc) ∧ ∀ (S : Nat → Prop) (ρ : Nat → Nat) (a : Act) (w : World) (Q : Exit → Act → World → Prop), FrR S ρ fr.tm fr.hp a w → NF S fr.hp fr1.hp → (∀ p ∈ fr1.pc, p) →
      (∀ a1 w1, After S ρ fr fr1 w a1 w1 → Q .normal a1 w1) → (Code.region id ops true).wp E.P Q a w := by
  obtain ⟨h1, h2, h3⟩ := doDraw_recs (tm0 := fr.tm) (hp0 := fr.hp) hcf hE _ _ _ _ _ _ _ _ h (fun k => by simp)
  refine ⟨doDraw_keep hcf _ _ _ _ _ _ _ _ h, h1, fun S ρ a w Q hf hN hpc hQ => wp_region_any hm ?_⟩
  obtain ⟨hR, hP, hT, hlen, hG, hup, hall, -⟩ := h3 hpc (fun t d ht => by simp [lookK] at ht) trivial trivial (fun _ => rfl) rfl (fun _ => rfl) (Nat.le_refl _) (fun q hq => by simp at hq) (fun j hj => by omega) (fun p hp => by simp at hp) (fun _ _ hm => hm) (fun _ _ _ => rfl)
  simp only [Array.length_toList, Nat.zero_add] at hup hall
  have hlow : ∀ r ∈ rs, fr.hp.next ≤ r.hin.next := fun r hr => by obtain ⟨_, _, _, hok⟩ := hR.at_ r hr; exact hok.low
  have hop : ∀ r ∈ rs, ops[r.i]? = some r.o := fun r hr => by obtain ⟨_, _, _, hok⟩ := hR.at_ r hr; exact hok.op
  have key : ∀ (fuel : Nat) (listed : Array Bool) (D : Nat → Bool) (a1 : Act) (w1 : World), listed.size = ops.size → (∀ j, listed.getD j false = D j) → undone D ops.size ≤ fuel →
      DInv ops fr.tm fr.hp rs S ρ w D a1 w1 → wpAny E.P .any ops Q fuel listed a1 w1 := by
    have hend : ∀ (D : Nat → Bool) (a1 : Act) (w1 : World), (∀ j, j < ops.size → D j = true) → DInv ops fr.tm fr.hp rs S ρ w D a1 w1 → Q .normal a1 w1 := fun D a1 w1 hD hI => by
      obtain ⟨_, hsz, hdf, ρ1, b1, b2, b3, b4⟩ := hI
      have hDr : ∀ r ∈ rs, D r.i = true := fun r hr => hD r.i (hup r hr).1
      have hS : ∀ k, (S k ∨ ∃ r ∈ rs, D r.i = true ∧ r.hin.next ≤ k ∧ k < r.out.next) → SN S fr.hp fr1.hp k := fun k hk => by
        rcases hk with hk | ⟨r, hr, _, h5, h6⟩
        · exact .inl hk
        · exact .inr ⟨Nat.le_trans (hlow r hr) h5, Nat.lt_of_lt_of_le h6 (hup r hr).2⟩
      have hget : ∀ x, (hpR rs D fr.hp).get x = fr1.hp.get x := fun x => by
        rw [get_hpR, hG]
        exact lookR_congr fun r hr _ => hDr r hr
      refine hQ a1 w1 ⟨ρ1, b1, ⟨by rw [hlen, hsz], fun t => ?_, (b3.up hS).less fun n b hb => by rw [hget]; exact hb, hdf⟩, b4.less fun n b hb => by rw [hget]; exact hb⟩
      have := (b2 t).up hS (Ag.refl _ _)
      rw [tmR_congr (D' := fun _ => true) (fun r hr _ => hDr r hr), ← hT] at this
      exact this
    intro fuel
    induction fuel with
    | zero =>
      intro listed D a1 w1 hs hl hu hI
      have hD := undone_zero (D := D) (n := ops.size) (by omega)
      refine ⟨?_, hend D a1 w1 hD hI⟩
      rw [List.eq_nil_iff_forall_not_mem]
      intro j hj
      obtain ⟨h5, o, ho, _⟩ := mem_ready.1 hj
      have hlt : j < ops.size := (Array.getElem?_eq_some_iff.1 ho).1
      have := hl j
      rw [hD j hlt] at this
      simp only [Array.getD_eq_getD_getElem?, Array.getElem?_eq_getElem (hs ▸ hlt), Option.getD_some] at h5 this
      rw [h5] at this; cases this
    | succ fuel ih =>
      intro listed D a1 w1 hs hl hu hI
      have hgetD : ∀ j, j < ops.size → listed.getD j true = D j := fun j hlt => by
        rw [← hl j]
        simp only [Array.getD_eq_getD_getElem?, Array.getElem?_eq_getElem (hs ▸ hlt), Option.getD_some]
      refine ⟨fun hr => hend D a1 w1 (fun j => ?_) hI, fun i hi => ?_⟩
      · induction j using Nat.strongRecOn with
        | _ j ihj =>
          intro hj
          obtain ⟨r, hrr, rfl⟩ := hall j hj
          obtain ⟨_, _, _, hok⟩ := hR.at_ r hrr
          cases hd : D r.i with
          | true => rfl
          | false =>
            have : r.i ∈ Region.ready .any ops listed := mem_ready.2 ⟨by rw [hgetD _ hj, hd], r.o, hok.op, fun e he hb => by
              have hlt := hok.edges e he hb
              rw [hl]
              exact ihj e.on hlt (Nat.lt_trans hlt hj)⟩
            rw [hr] at this
            simp at this
      · obtain ⟨h5, o, ho, h6⟩ := mem_ready.1 hi
        have hlt : i < ops.size := (Array.getElem?_eq_some_iff.1 ho).1
        obtain ⟨r, hrr, rfl⟩ := hall i hlt
        have hD : D r.i = false := by rw [← hgetD _ hlt]; exact h5
        have ho' := hop r hrr
        rw [ho'] at ho
        obtain rfl := Option.some.inj ho
        refine draw_step hE hcf hR hP (top := fr1.hp.next) hN (fun q hq => (hup q hq).2) hI hrr hD (fun e he hb => by rw [← hl]; exact h6 e he hb) _ Q fun u w2 hI2 => ih _ (fun j => D j || j == r.i) _ w2 (by simp [hs]) (fun j => ?_) ?_ hI2
        · rw [Array.getD_eq_getD_getElem?, Array.getElem?_setIfInBounds]
          by_cases e : r.i = j
          · subst e
            simp [hs, hlt]
          · rw [if_neg e, ← Array.getD_eq_getD_getElem?, hl]
            have : (j == r.i) = false := by simpa using fun h => e h.symm
            rw [this, Bool.or_false]
        · have := undone_set (D := D) hD (n := ops.size)
          rw [if_pos hlt] at this
          omega
  refine key ops.size _ (fun _ => false) a _ (by simp) (fun j => ?_) undone_le ⟨(fun j o _ hj => nomatch hj), hf.size.symm, hf.defers, ρ, Ag.refl _ _, fun t => ?_, ?_, ?_⟩
  · simp only [Array.getD_eq_getD_getElem?, Array.getElem?_replicate]
    split <;> rfl
  · have e : tmR rs (fun _ => false) t (fr.tm.getD t undef) = fr.tm.getD t undef := by
      have := tmR_post (D := fun _ => false) (x := t) (b := fr.tm.getD t undef) (l := []) (post := rs) (fun _ _ => rfl)
      simpa [tmR] using this
    rw [e]
    exact (hf.tmp t).up (fun k hk => .inl hk) (Ag.refl _ _)
  all_goals
    have hget : ∀ x, (hpR rs (fun _ => false) fr.hp).get x = fr.hp.get x := fun x => by
      rw [get_hpR]
      have := lookR_post (D := fun _ => false) (x := x) (b := fr.hp.get x) (l := []) (post := rs) (fun _ _ => rfl)
      simpa [lookR] using this
  · exact ((hf.heap.drew).up (fun k hk => .inl hk)).less fun n b hb => by rw [← hget]; exact hb
  · exact ⟨rfl, rfl, rfl, Nat.le_refl _, fun _ _ _ => rfl, fun n b hb hbp => .inl ⟨n, b, by rw [← hget]; exact hb, hbp, rfl, rfl⟩⟩
end
end Go.Proofs.YtocfhiafegkfkaaGreat.Ev
namespace Go.Proofs.YtocfhiafegkfkaaGreat.Ev
open Go Go.RowKit

def Ex.to : Ex → Exit
  | .normal => .normal
  | .exit id => .exit id
  | .ret => .ret

/-- What the evaluator says of a piece of code. -/
def CodeOk (E : Env) (c : Code) (fr : Fr) (ex : Ex) (fr1 : Fr) : Prop :=
  Keep fr.hp fr1.hp ∧ (∀ p ∈ fr.pc, p ∈ fr1.pc) ∧ ∀ (S : Nat → Prop) (ρ : Nat → Nat) (a : Act) (w : World) (Q : Exit → Act → World → Prop), FrR S ρ fr.tm fr.hp a w → NF S fr.hp fr1.hp → (∀ p ∈ fr1.pc, p) →
    (∀ a1 w1, After S ρ fr fr1 w a1 w1 → Q ex.to a1 w1) → c.wp E.P Q a w

section
variable {E : Env} {cf : CallF}
theorem CodeOk.seq {x y : Code} {fr fr1 fr2 : Fr} {ex : Ex} (hx : CodeOk E x fr .normal fr1) (hy : CodeOk E y fr1 ex fr2) : CodeOk E (.seq x y) fr ex fr2 := by
  obtain ⟨k1, p1, h1⟩ := hx
  obtain ⟨k2, p2, h2⟩ := hy
  refine ⟨k1.trans k2, fun p hp => p2 p (p1 p hp), fun S ρ a w Q hf hN hpc hQ => wp_seq (h1 S ρ a w _ hf (hN.left k2.le) (fun p hp => hpc p (p2 p hp)) fun a1 w1 haft => ?_)⟩
  obtain ⟨ρ1, r1, r2, r3⟩ := haft
  exact h2 _ ρ1 a1 w1 Q r2 (hN.right k1.le) hpc fun a2 w2 haft2 => hQ a2 w2 (After.trans k1.le k2.le r1 r3 haft2)
/-- What leaves early leaves the rest behind. -/
theorem CodeOk.early {x y : Code} {fr fr1 : Fr} {ex : Ex} (hx : CodeOk E x fr ex fr1) (he : ∀ next Q, Exit.then next Q ex.to = Q ex.to) : CodeOk E (.seq x y) fr ex fr1 := by
  obtain ⟨k1, p1, h1⟩ := hx
  exact ⟨k1, p1, fun S ρ a w Q hf hN hpc hQ => wp_seq (h1 S ρ a w _ hf hN hpc fun a1 w1 haft => by rw [he]; exact hQ a1 w1 haft)⟩
theorem early_to {ex : Ex} (h : ex ≠ .normal) (next : Act → World → Prop) (Q : Exit → Act → World → Prop) : Exit.then next Q ex.to = Q ex.to := by
  cases ex with
  | normal => exact absurd rfl h
  | exit id => funext a w; rfl
  | ret => funext a w; rfl

theorem rounds_ok {c : Code} {f : Fr → Option (Ex × Fr)} (hc : ∀ fr ex fr1, f fr = some (ex, fr1) → CodeOk E c fr ex fr1) : ∀ (n : Nat) (fr : Fr) (ex : Ex) (fr1 : Fr), loopN f n fr = some (ex, fr1) →
    Keep fr.hp fr1.hp ∧ (∀ p ∈ fr.pc, p ∈ fr1.pc) ∧ ∀ (S : Nat → Prop) (ρ : Nat → Nat) (a : Act) (w : World) (Q : Exit → Act → World → Prop), FrR S ρ fr.tm fr.hp a w → NF S fr.hp fr1.hp → (∀ p ∈ fr1.pc, p) →
    (∀ a1 w1, After S ρ fr fr1 w a1 w1 → Q ex.to a1 w1) → Code.rounds E.P c Q n a w
  | 0, fr, ex, fr1, h => by cases h
  | n + 1, fr, ex, fr1, h => by
    simp only [loopN] at h
    split at h
    · rename_i fr' hf'
      obtain ⟨k1, p1, h1⟩ := hc _ _ _ hf'
      obtain ⟨k2, p2, h2⟩ := rounds_ok hc n _ _ _ h
      refine ⟨k1.trans k2, fun p hp => p2 p (p1 p hp), fun S ρ a w Q hf hN hpc hQ => ?_⟩
      show c.wp E.P _ a w
      refine h1 S ρ a w _ hf (hN.left k2.le) (fun p hp => hpc p (p2 p hp)) fun a1 w1 haft => ?_
      obtain ⟨ρ1, r1, r2, r3⟩ := haft
      exact h2 _ ρ1 a1 w1 Q r2 (hN.right k1.le) hpc fun a2 w2 haft2 => hQ a2 w2 (After.trans k1.le k2.le r1 r3 haft2)
    · rename_i hne
      obtain ⟨k1, p1, h1⟩ := hc _ _ _ h
      refine ⟨k1, p1, fun S ρ a w Q hf hN hpc hQ => ?_⟩
      show c.wp E.P _ a w
      refine h1 S ρ a w _ hf hN hpc fun a1 w1 haft => ?_
      rw [early_to (fun e => hne fr1 (e ▸ h))]
      exact hQ a1 w1 haft

theorem doCode_sound (hm : E.P.follows .mixedOrders = true) (hE : EqsOk E) (hcf : CfOk E.P cf) : ∀ (c : Code) (fr : Fr) (ex : Ex) (fr1 : Fr), doCode E cf c fr = some (ex, fr1) → CodeOk E c fr ex fr1
  | .skip, fr, ex, fr1, h => by
    simp only [doCode, Option.some.injEq, Prod.mk.injEq] at h
    obtain ⟨rfl, rfl⟩ := h
    exact ⟨Keep.refl _, fun _ hp => hp, fun S ρ a w Q hf _ _ hQ => wp_skip (hQ a w (After.refl hf))⟩
  | .region id ops false, fr, ex, fr1, h => by
    simp only [doCode] at h
    split at h
    · rename_i fr' hfr
      simp only [Option.some.injEq, Prod.mk.injEq] at h
      obtain ⟨rfl, rfl⟩ := h
      obtain ⟨h1, h2, h3⟩ := doOps_sound hE hcf _ _ _ _ hfr
      exact ⟨h1, h2, fun S ρ a w Q hf hN hpc hQ => wp_region_list (h3 S ρ a w Q hf hN hpc (fun t d ht => by simp [lookK] at ht) hQ)⟩
    · cases h
  | .region id ops true, fr, ex, fr1, h => by
    simp only [doCode] at h
    split at h
    · rename_i fr' rs hfr
      simp only [Option.some.injEq, Prod.mk.injEq] at h
      obtain ⟨rfl, rfl⟩ := h
      exact doDraw_sound hm hE hcf hfr
    · cases h
  | .seq x y, fr, ex, fr1, h => by
    simp only [doCode] at h
    split at h
    · rename_i fr' hfr
      exact (doCode_sound hm hE hcf x _ _ _ hfr).seq (doCode_sound hm hE hcf y _ _ _ h)
    · rename_i hne
      exact (doCode_sound hm hE hcf x _ _ _ h).early (early_to fun e => hne fr1 (e ▸ h))
  | .cond (.tmp t) x y, fr, ex, fr1, h => by
    simp only [doCode] at h
    split at h
    · rename_i b d ds ht hds
      have hev : ∀ {S : Nat → Prop} {ρ : Nat → Nat} {a : Act} {w : World}, FrR S ρ fr.tm fr.hp a w → a.eval (.tmp t) = .bool b := fun {S ρ a w} hf => by
        have := hf.tmp t
        rw [ht] at this
        exact this.bool
      split at h
      · rename_i pc hd
        obtain ⟨k1, p1, h1⟩ := doCode_sound hm hE hcf x _ _ _ h
        refine ⟨k1, fun p hp => p1 p (List.mem_append.2 (.inl hp)), fun S ρ a w Q hf hN hpc hQ => wp_cond_true ?_ (h1 S ρ a w Q hf hN hpc hQ)⟩
        rw [hev hf, decB_some hd (fun p hp => hpc p (p1 p (List.mem_append.2 (.inr hp))))]
      · rename_i pc hd
        obtain ⟨k1, p1, h1⟩ := doCode_sound hm hE hcf y _ _ _ h
        refine ⟨k1, fun p hp => p1 p (List.mem_append.2 (.inl hp)), fun S ρ a w Q hf hN hpc hQ => wp_cond_false ?_ (h1 S ρ a w Q hf hN hpc hQ)⟩
        rw [hev hf, decB_some hd (fun p hp => hpc p (p1 p (List.mem_append.2 (.inr hp))))]
      · cases h
    · cases h
  | .block id c, fr, ex, fr1, h => by
    simp only [doCode] at h
    split at h
    · rename_i j fr' hfr
      obtain ⟨k1, p1, h1⟩ := doCode_sound hm hE hcf c _ _ _ hfr
      cases hj : Nat.beq j id
      · rw [hj] at h
        simp only [cond_false, Option.some.injEq, Prod.mk.injEq] at h
        obtain ⟨rfl, rfl⟩ := h
        refine ⟨k1, p1, fun S ρ a w Q hf hN hpc hQ => wp_block (h1 S ρ a w _ hf hN hpc fun a1 w1 haft => ?_)⟩
        show if j = id then _ else _
        rw [if_neg (bne_nat hj)]
        exact hQ a1 w1 haft
      · rw [hj] at h
        simp only [cond_true, Option.some.injEq, Prod.mk.injEq] at h
        obtain ⟨rfl, rfl⟩ := h
        refine ⟨k1, p1, fun S ρ a w Q hf hN hpc hQ => wp_block (h1 S ρ a w _ hf hN hpc fun a1 w1 haft => ?_)⟩
        show if j = id then _ else _
        rw [if_pos (beq_nat hj)]
        exact hQ a1 w1 haft
    · rename_i hne
      obtain ⟨k1, p1, h1⟩ := doCode_sound hm hE hcf c _ _ _ h
      refine ⟨k1, p1, fun S ρ a w Q hf hN hpc hQ => wp_block (h1 S ρ a w _ hf hN hpc fun a1 w1 haft => ?_)⟩
      cases ex with
      | normal => exact hQ a1 w1 haft
      | exit j => exact absurd h (hne j fr1)
      | ret => exact hQ a1 w1 haft
  | .loop c, fr, ex, fr1, h => by
    simp only [doCode] at h
    obtain ⟨k1, p1, h1⟩ := rounds_ok (fun fr ex fr1 => doCode_sound hm hE hcf c fr ex fr1) 200 _ _ _ h
    exact ⟨k1, p1, fun S ρ a w Q hf hN hpc hQ => wp_loop_rounds 200 (h1 S ρ a w Q hf hN hpc hQ)⟩
  | .exit id, fr, ex, fr1, h => by
    simp only [doCode, Option.some.injEq, Prod.mk.injEq] at h
    obtain ⟨rfl, rfl⟩ := h
    exact ⟨Keep.refl _, fun _ hp => hp, fun S ρ a w Q hf _ _ hQ => wp_exit (hQ a w (After.refl hf))⟩
  | .ret, fr, ex, fr1, h => by
    simp only [doCode, Option.some.injEq, Prod.mk.injEq] at h
    obtain ⟨rfl, rfl⟩ := h
    exact ⟨Keep.refl _, fun _ hp => hp, fun S ρ a w Q hf _ _ hQ => wp_ret (hQ a w (After.refl hf))⟩
  | .cond (.const _) _ _, fr, ex, fr1, h => by simp [doCode] at h
  | .cond (.func _) _ _, fr, ex, fr1, h => by simp [doCode] at h
  | .cond (.global _) _ _, fr, ex, fr1, h => by simp [doCode] at h
  | .rangeFunc _ _ _ _, fr, ex, fr1, h => by simp [doCode] at h
  | .scope _, fr, ex, fr1, h => by simp [doCode] at h
  | .label _, fr, ex, fr1, h => by simp [doCode] at h
  | .goto _, fr, ex, fr1, h => by simp [doCode] at h
  | .refuse _, fr, ex, fr1, h => by simp [doCode] at h

/-! ### Calls -/
def resG (tmps : Array Value) : ResultVar → Sem Value
  | .tmp t => pure (tmps.getD t undef)
  | .cell a t => do loadVar t (← asAddr (tmps.getD a undef))
theorem results_eq (fn : Func) (tmps : Array Value) : results fn tmps = (do
    let vs ← fn.results.mapM (resG tmps)
    pure (if h : vs.size = 1 then vs[0] else .tuple vs)) := rfl
theorem resV_sound {S : Nat → Prop} {ρ : Nat → Nat} {tm : List Value} {hp : Hp} {a : Act} {w : World} (hf : FrR S ρ tm hp a w) : ∀ (l : List ResultVar) (vs : List Value) (pc : List Prop), resV E tm hp l = some (vs, pc) → (∀ p ∈ pc, p) →
    ∃ us, (l.mapM (resG a.tmps)).run E.P w = .ok us w ∧ VRL S ρ vs us
  | [], vs, pc, h, _ => by
    simp only [resV, Option.some.injEq, Prod.mk.injEq] at h
    obtain ⟨rfl, rfl⟩ := h
    exact ⟨[], by simp [go_sem], fun _ _ => rfl⟩
  | .tmp t :: r, vs, pc, h, hpc => by
    simp only [resV] at h
    split at h
    · rename_i vs' pc' v hr hav
      simp only [Option.some.injEq, Prod.mk.injEq] at h
      obtain ⟨rfl, rfl⟩ := h
      obtain ⟨us, hu, hv⟩ := resV_sound hf r _ _ hr hpc
      obtain ⟨rfl, hd⟩ := aval_tmp hav
      have hvt : VR S ρ (tm.getD t undef) (a.tmps.getD t undef) := by
        rcases hf.tmp t with h | h
        · rw [hd] at h; cases h
        · exact h
      refine ⟨a.tmps.getD t undef :: us, by simp [List.mapM_cons, resG, go_sem, hu], fun ρ' ha => ?_⟩
      rw [List.map_cons, ← hv ρ' ha, ← hvt ρ' ha]
    · cases h
  | .cell t ty :: r, vs, pc, h, hpc => by
    simp only [resV] at h
    split at h
    · rename_i v hp' pc1 hl
      split at h
      · rename_i vs' pc' hr
        simp only [Option.some.injEq, Prod.mk.injEq] at h
        obtain ⟨rfl, rfl⟩ := h
        obtain ⟨us, hu, hv⟩ := resV_sound hf r _ _ hr (fun p hp => hpc p (List.mem_append.2 (.inr hp)))
        have hpc1 : ∀ p ∈ pc1, p := fun p hp => hpc p (List.mem_append.2 (.inl hp))
        have : ∃ n off u, tm.getD t undef = .pointer (some ⟨n, off, none⟩) ∧ (loadVar ty ⟨ρ n, off, none⟩).run E.P w = .ok u w ∧ VR S ρ v u := by
          simp only [aop] at hl
          split at hl
          · rename_i n off hx
            have hx' : tm.getD t undef = .pointer (some ⟨n, off, none⟩) := (aval_tmp hx).1
            split at hl
            · rename_i b hb
              split at hl
              · rename_i sz hs
                split at hl
                · rename_i vs2 pc2 hl2
                  simp only [Option.some.injEq, Prod.mk.injEq] at hl
                  obtain ⟨rfl, rfl, rfl⟩ := hl
                  obtain ⟨u, h1, h2⟩ := sound_loadVar (E := E) (t := ty) hf.heap hb hpc1 (.inl ⟨sz, vs2, hs, hl2, rfl⟩)
                  exact ⟨n, off, u, hx', h1, h2⟩
                · cases hl
              · rename_i sz hs
                split at hl
                · rename_i v2 pc2 hl2
                  simp only [Option.some.injEq, Prod.mk.injEq] at hl
                  obtain ⟨rfl, rfl, rfl⟩ := hl
                  obtain ⟨u, h1, h2⟩ := sound_loadVar (E := E) (t := ty) hf.heap hb hpc1 (.inr ⟨sz, hs, hl2⟩)
                  exact ⟨n, off, u, hx', h1, h2⟩
                · cases hl
              · cases hl
            · cases hl
          · cases hl
        obtain ⟨n, off, u, hx, hrun, hvu⟩ := this
        have hp : a.tmps.getD t undef = .pointer (some ⟨ρ n, off, none⟩) := by
          have := hf.tmp t
          rw [hx] at this
          rcases this with h | h
          · cases h
          · exact h.self
        refine ⟨u :: us, ?_, fun ρ' ha => ?_⟩
        · rw [List.mapM_cons]
          simp only [resG, hp, asAddr, pure_bind]
          generalize loadVar ty ⟨ρ n, off, none⟩ = L at hrun ⊢
          simp [go_sem, hrun, hu]
        · rw [List.map_cons, ← hv ρ' ha, ← hvu ρ' ha]
      · cases h
    · cases h
theorem oneV_sound {S : Nat → Prop} {ρ : Nat → Nat} {vs us : List Value} (h : VRL S ρ vs us) : VR S ρ (oneV vs) (oneV us) := fun ρ' ha => by
  rw [h ρ' ha]
  match vs with
  | [] => simp [oneV, ren_tuple]
  | [v] => simp [oneV]
  | v :: v' :: r => simp [oneV, ren_tuple]
theorem oneV_eq (us : List Value) : (if h : (us.toArray).size = 1 then us.toArray[0] else Value.tuple us.toArray) = oneV us := by
  match us with
  | [] => rfl
  | [v] => rfl
  | v :: v' :: r => simp [oneV]
theorem results_sound {S : Nat → Prop} {ρ : Nat → Nat} {tm : List Value} {hp : Hp} {a : Act} {w : World} (hf : FrR S ρ tm hp a w) {fn : Func} {vs : List Value} {pc : List Prop} (h : resV E tm hp fn.results.toList = some (vs, pc)) (hpc : ∀ p ∈ pc, p) :
    ∃ u, (results fn a.tmps).run E.P w = .ok u w ∧ VR S ρ (oneV vs) u := by
  obtain ⟨us, hu, hv⟩ := resV_sound hf _ _ _ h hpc
  refine ⟨oneV us, ?_, oneV_sound hv⟩
  rw [results_eq, Array.mapM_eq_mapM_toList, ← oneV_eq us]
  simp [go_sem, hu]

/-- What is told holds. -/
structure EnvOk (E : Env) : Prop where
  mixed : E.P.follows .mixedOrders = true
  eqs : EqsOk E
  orc : ∀ f args hp v hp' pc, E.orc f args hp = some (v, hp', pc) → ∀ ds, CallOk E.P f args hp ⟨v, hp', ds, pc⟩

theorem VRL.get {S : Nat → Prop} {ρ : Nat → Nat} {l u : List Value} (h : VRL S ρ l u) (t : Nat) : VR S ρ (l.getD t undef) (u.getD t undef) := fun ρ' ha => by
  rw [h ρ' ha]
  simp only [List.getD_eq_getElem?_getD, List.getElem?_map]
  cases l[t]? with
  | none => rfl
  | some v => rfl

theorem doCall_ok (hE : EnvOk E) : ∀ k, CfOk E.P (doCall E k)
  | 0 => fun f args hp ds out h => by cases h
  | k + 1 => fun f args hp ds out h => by
    simp only [doCall] at h
    split at h
    · rename_i v hp' pc ho
      simp only [Option.some.injEq] at h
      subst h
      exact hE.orc _ _ _ _ _ _ ho ds
    · split at h
      · cases h
      · rename_i fn hfn
        cases hname : (fn.name == "runtime.NumGoroutine")
        · rw [hname] at h
          simp only [cond_false] at h
          split at h
          · cases h
          · rename_i c hb
            have hent : Enters E.P f := fun args w => by
              have hne : ¬ fn.name = "runtime.NumGoroutine" := by simpa using hname
              simp [callFunc, go_sem, hfn, hne, hb]
            have main : ∀ (ex : Ex) (fr : Fr) (vs : List Value) (pc : List Prop), doCode E (doCall E k) c ⟨args ++ List.replicate (fn.ntmps - args.length) undef, hp, ds, []⟩ = some (ex, fr) → (∀ id, ex ≠ .exit id) → resV E fr.tm fr.hp fn.results.toList = some (vs, pc) →
                CallOk E.P f args hp ⟨oneV vs, fr.hp.sweep hp.next vs, fr.ds, fr.pc ++ pc⟩ := fun ex fr vs pc hc hex hr => by
              obtain ⟨k1, p1, h1⟩ := doCode_sound hE.mixed hE.eqs (doCall_ok hE k) c _ _ _ hc
              have k1' : Keep hp fr.hp := k1
              refine ⟨⟨k1'.le, fun m hm hl => mem_below hm (k1'.log m hm hl), fun n hn hl => ?_⟩, hent, fun hpc S ρ w cargs hargs hH hN => calls_of_wp hfn hb (h1 S ρ _ w _ ⟨?_, fun t => ?_, hH, rfl⟩ hN (fun p hp => hpc p (List.mem_append.2 (.inl hp))) fun a1 w1 haft => ?_)⟩
              · show (fr.hp.sweep hp.next vs).get n = hp.get n
                rw [get_sweep_old hn]
                exact k1'.same n hn fun hm => hl (mem_below hn hm)
              · have := congrArg List.length hargs.self
                simp at this
                simp [this]
              · have hlen := congrArg List.length hargs.self
                simp at hlen
                have : VRL S ρ (args ++ List.replicate (fn.ntmps - args.length) undef) (cargs ++ List.replicate (fn.ntmps - cargs.length) undef) := fun ρ' ha => by
                  rw [List.map_append, ← hargs ρ' ha, hlen]
                  simp [ren_undef]
                have := this.get t
                have e : (((⟨cargs⟩ : Array Value) ++ Array.replicate (fn.ntmps - (⟨cargs⟩ : Array Value).size) undef).getD t undef) = (cargs ++ List.replicate (fn.ntmps - cargs.length) undef).getD t undef := by
                  rw [Array.getD_eq_getD_getElem?, List.getD_eq_getElem?_getD, ← Array.getElem?_toList]
                  simp
                rw [e]
                exact .inr this
              · obtain ⟨ρ1, r1, r2, r3⟩ := haft
                obtain ⟨u, hu, hv⟩ := results_sound r2 hr (fun p hp => hpc p (List.mem_append.2 (.inr hp)))
                have hres : Comes1 S ρ hp w ⟨oneV vs, fr.hp.sweep hp.next vs, fr.ds, fr.pc ++ pc⟩ (.returned u) w1 :=
                  ⟨u, rfl, ρ1, r1, r2.heap.less (fun n b hb => get_sweep hb), hv, r3.less (fun n b hb => get_sweep hb)⟩
                cases ex with
                | normal => exact ⟨r2.defers, u, hu, hres⟩
                | ret => exact ⟨r2.defers, u, hu, hres⟩
                | exit id => exact absurd rfl (hex id)
            split at h
            · cases h
            · rename_i ex fr hne hc
              split at h
              · rename_i vs pc hr
                simp only [Option.some.injEq] at h
                subst h
                exact main _ fr vs pc hc (fun id e => by subst e; exact hne id rfl) hr
              · cases h
            · cases h
        · rw [hname] at h
          cases h
end
end Go.Proofs.YtocfhiafegkfkaaGreat.Ev
