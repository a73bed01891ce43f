/- A region whose order is open does what the evaluator says, in whatever order (2). -/
import Derived.Test.YtcpkieahnkfpoaaEvDraw
namespace Go.Proofs.Ytcpkieahnkfpoaa.Ev
open Go Go.RowKit

theorem mem_newKeys {n m : Nat} {l : List (Nat × Blk)} : m ∈ newKeys n l → n ≤ m := by
  induction l with
  | nil => simp [newKeys]
  | cons p r ih =>
    obtain ⟨k, b⟩ := p
    simp only [newKeys]
    cases hk : Nat.ble n k
    · simp only [cond_false]; exact ih
    · simp only [cond_true, List.mem_cons]
      rintro (rfl | h)
      · simpa using hk
      · exact ih h
theorem newKeys_mem {n m : Nat} : ∀ {l : List (Nat × Blk)} {b : Blk}, lookB m l = some b → n ≤ m → m ∈ newKeys n l
  | [], _, h, _ => by simp [lookB] at h
  | (k, c) :: r, b, h, hn => by
    simp only [lookB] at h
    simp only [newKeys]
    cases hk : Nat.beq k m
    · simp only [hk, cond_false] at h
      have ih := newKeys_mem h hn
      cases Nat.ble n k
      · exact ih
      · exact List.mem_cons_of_mem _ ih
    · have := beq_nat hk
      subst this
      have : Nat.ble n k = true := by simpa using hn
      rw [this]
      simp

section
variable {E : Env} {cf : CallF} {ops : Array Oper} {tm0 : List Value} {hp0 : Hp}

/-- A record is known of those ahead of it, wherever it stands. -/
theorem Recs.at_ {rs : List Rec} (h : Recs E cf ops tm0 hp0 rs) : ∀ r ∈ rs, ∃ pre post, rs = post ++ r :: pre ∧ RecOk E cf ops tm0 hp0 pre r := by
  induction rs with
  | nil => intro r hr; simp at hr
  | cons q rs ih =>
    intro r hr
    rcases List.mem_cons.1 hr with rfl | hr
    · exact ⟨rs, [], rfl, h.2⟩
    · obtain ⟨pre, post, e, ho⟩ := ih h.1 r hr
      exact ⟨pre, q :: post, by rw [e]; rfl, ho⟩
theorem Recs.post {pre post : List Rec} {r : Rec} (h : Recs E cf ops tm0 hp0 (post ++ r :: pre)) : ∀ q ∈ post, r.i < q.i ∧ r.out.next ≤ q.hin.next := by
  induction post with
  | nil => intro q hq; simp at hq
  | cons p post ih =>
    intro q hq
    rcases List.mem_cons.1 hq with rfl | hq
    · exact (h.2.up r (by simp))
    · exact ih h.1 q hq
theorem Recs.pre {pre post : List Rec} {r : Rec} (h : Recs E cf ops tm0 hp0 (post ++ r :: pre)) : ∀ q ∈ pre, q.i < r.i ∧ q.out.next ≤ r.hin.next := by
  induction post with
  | nil => exact h.2.up
  | cons p post ih => exact ih h.1

theorem apart_parts {x y : Rec} (h : apartR ops x y = true) : Oper.apart ops x.o y.o = true ∧ (∀ n ∈ x.wr, n ∉ y.rd) ∧ (∀ n ∈ x.wr, n ∉ y.wr) ∧ (∀ n ∈ y.wr, n ∉ x.rd) := by
  simp only [apartR, Bool.and_eq_true, disj_iff] at h
  exact ⟨h.1.1.1, h.1.1.2, h.1.2, h.2⟩
theorem Pairs.get {rs : List Rec} (h : Pairs ops rs) {pre post : List Rec} {r : Rec} (e : rs = post ++ r :: pre) : (∀ q ∈ pre, Anc ops q.i r.i ∨ apartR ops q r = true) ∧ (∀ q ∈ post, Anc ops r.i q.i ∨ apartR ops r q = true) := by
  subst e
  induction post with
  | nil => exact ⟨h.2, fun q hq => by simp at hq⟩
  | cons p post ih =>
    refine ⟨(ih h.1).1, fun q hq => ?_⟩
    rcases List.mem_cons.1 hq with rfl | hq
    · exact h.2 r (by simp)
    · exact (ih h.1).2 q hq

theorem lookR_post {D : Nat → Bool} {x : Nat} {b : Option Blk} {l : List Rec} : ∀ {post : List Rec}, (∀ q ∈ post, D q.i = false) → lookR (post ++ l) D x b = lookR l D x b
  | [], _ => rfl
  | p :: post, h => by
    simp only [List.cons_append, lookR]
    rw [if_neg (by simp [h p List.mem_cons_self])]
    exact lookR_post fun q hq => h q (List.mem_cons_of_mem _ hq)
theorem tmR_post {D : Nat → Bool} {x : Nat} {b : Value} {l : List Rec} : ∀ {post : List Rec}, (∀ q ∈ post, D q.i = false) → tmR (post ++ l) D x b = tmR l D x b
  | [], _ => rfl
  | p :: post, h => by
    simp only [List.cons_append, tmR]
    rw [if_neg (by simp [h p List.mem_cons_self])]
    exact tmR_post fun q hq => h q (List.mem_cons_of_mem _ hq)
/-- What has been done is closed under what must come ahead. -/
def Closed (ops : Array Oper) (D : Nat → Bool) : Prop := ∀ (j : Nat) (o : Oper), ops[j]? = some o → D j = true → ∀ e ∈ o.after, Region.binds .any e = true → D e.on = true
theorem Closed.anc {D : Nat → Bool} (h : Closed ops D) {i j : Nat} (ha : Anc ops i j) : D j = true → D i = true := by
  induction ha with
  | one ho he hb hi => intro hj; subst hi; exact h _ _ ho hj _ he hb
  | more ho he hb hi _ ih => intro hj; subst hi; exact ih (h _ _ ho hj _ he hb)

structure DInv (ops : Array Oper) (tm0 : List Value) (hp0 : Hp) (rs : List Rec) (S0 : Nat → Prop) (ρ0 : Nat → Nat) (w0 : World) (D : Nat → Bool) (a : Act) (w : World) : Prop where
  closed : Closed ops D
  size : a.tmps.size = tm0.length
  defers : a.defers = []
  ex : ∃ ρ, Ag S0 ρ0 ρ ∧ (∀ t, VRd (fun k => S0 k ∨ ∃ r ∈ rs, D r.i = true ∧ r.hin.next ≤ k ∧ k < r.out.next) ρ (tmR rs D t (tm0.getD t undef)) (a.tmps.getD t undef)) ∧
    HR (fun k => S0 k ∨ ∃ r ∈ rs, D r.i = true ∧ r.hin.next ≤ k ∧ k < r.out.next) ρ (hpR rs D hp0) w ∧ FR ρ0 ρ hp0 (hpR rs D hp0) w0 w

theorem draw_step (hE : EqsOk E) (hcf : CfOk E.P cf) {rs : List Rec} (hR : Recs E cf ops tm0 hp0 rs) (hP : Pairs ops rs) {S0 : Nat → Prop} {ρ0 : Nat → Nat} {w0 : World} {top : Nat}
    (hS0 : ∀ k, hp0.next ≤ k → k < top → ¬ S0 k) (htop : ∀ r ∈ rs, r.out.next ≤ top) {D : Nat → Bool} {a : Act} {w : World} (h : DInv ops tm0 hp0 rs S0 ρ0 w0 D a w) {r : Rec} (hr : r ∈ rs) (hDr : D r.i = false)
    (hready : ∀ e ∈ r.o.after, Region.binds .any e = true → D e.on = true) (K : Act → World → Prop) (Q : Exit → Act → World → Prop)
    (hK : ∀ u w1, DInv ops tm0 hp0 rs S0 ρ0 w0 (fun j => D j || j == r.i) (a.put r.o.dst u) w1 → K (a.put r.o.dst u) w1) : wpOp E.P ops Q r.i K a w := by
  obtain ⟨pre, post, erp, hok⟩ := hR.at_ r hr
  obtain ⟨tm, kn, hp, ds, ds1, pc, kn1, htm, hget, hkn, hhin, hrun, hpc⟩ := hok.run
  obtain ⟨hcl, hsz, hdf, ρ, hag, hT, hH, hFR⟩ := h
  have hpre : ∀ q ∈ pre, q.i < r.i ∧ q.out.next ≤ r.hin.next := Recs.pre (erp ▸ hR)
  have hpost : ∀ q ∈ post, r.i < q.i ∧ r.out.next ≤ q.hin.next := Recs.post (erp ▸ hR)
  obtain ⟨hp1, hp2⟩ := hP.get erp
  have hinpre : ∀ q ∈ pre, q ∈ rs := fun q hq => by rw [erp]; simp [hq]
  have hinpost : ∀ q ∈ post, q ∈ rs := fun q hq => by rw [erp]; simp [hq]
  have hopq : ∀ q ∈ rs, ops[q.i]? = some q.o := fun q hq => by obtain ⟨_, _, _, hq'⟩ := hR.at_ q hq; exact hq'.op
  -- what must come ahead of r has been done
  have hancD : ∀ {i j : Nat}, Anc ops i j → j = r.i → D i = true := fun {i j} ha hj => by
    subst hj
    cases ha with
    | one ho he hb hi =>
      rw [hok.op] at ho
      obtain rfl := Option.some.inj ho
      subst hi
      exact hready _ he hb
    | more ho he hb hi ha' =>
      rw [hok.op] at ho
      obtain rfl := Option.some.inj ho
      subst hi
      exact hcl.anc ha' (hready _ he hb)
  -- what meets r has been done just if it stands ahead of it
  have hmeet : ∀ q ∈ rs, q ≠ r → (apartR ops q r = true → q ∈ pre → False) → (apartR ops r q = true → q ∈ post → False) → D q.i = decide (q.i < r.i) := fun q hq hne h1 h2 => by
    rw [erp] at hq
    rcases List.mem_append.1 hq with hq | hq
    · have hlt := (hpost q hq).1
      have hd : ¬ D q.i = true := fun hd => by
        rcases hp2 q hq with ha | ha
        · have := hcl.anc ha hd
          rw [hDr] at this; cases this
        · exact h2 ha hq
      rw [show decide (q.i < r.i) = false from by simp; omega]
      simpa using hd
    · rcases List.mem_cons.1 hq with rfl | hq
      · exact absurd rfl hne
      · have hlt := (hpre q hq).1
        rw [show decide (q.i < r.i) = true from by simpa using hlt]
        rcases hp1 q hq with ha | ha
        · exact hancD ha rfl
        · exact (h1 ha hq).elim
  have hsplit : ∀ {f : Rec → Prop}, (∀ q ∈ rs, f q → q ≠ r → D q.i = decide (q.i < r.i)) → ∀ q ∈ rs, f q → D q.i = (decide (q.i < r.i)) := fun {f} hf q hq hfq => by
    by_cases e : q = r
    · subst e; simp [hDr]
    · exact hf q hq hfq e
  -- the records up to r, as they stand in the text
  have htmr : ∀ t, tmR rs (fun j => decide (j < r.i)) t (tm0.getD t undef) = tm.getD t undef := fun t => by
    rw [htm, erp]
    rw [tmR_post fun q hq => by have := (hpost q hq).1; simp; omega, tmR, if_neg (by simp)]
    exact tmR_congr fun q hq _ => by simpa using (hpre q hq).1
  have hlookr : ∀ x, lookR rs (fun j => decide (j < r.i)) x (hp0.get x) = hp.get x := fun x => by
    rw [hget, erp]
    rw [lookR_post fun q hq => by have := (hpost q hq).1; simp; omega, lookR, if_neg (by simp)]
    exact lookR_congr fun q hq _ => by simpa using (hpre q hq).1
  -- temporaries that r looks at
  have hTL : TL (fun k => S0 k ∨ ∃ r ∈ rs, D r.i = true ∧ r.hin.next ≤ k ∧ k < r.out.next) ρ tm a (r.o.looksAt ops) := fun t ht => by
    have e : tmR rs D t (tm0.getD t undef) = tm.getD t undef := by
      rw [← htmr t]
      exact tmR_congr (hsplit (f := fun q => q.o.dst = some t) fun q hq hd hne => hmeet q hq hne
        (fun ha _ => ((Oper.apart_spec (apart_parts ha).1).1 t hd) ht) (fun ha _ => ((Oper.apart_spec (apart_parts ha).1).2.2 t hd) ht))
    rw [← e]
    exact hT t
  have hrd : ∀ x b, r.hin.get x = some b → x ∈ r.rd ∧ hp.get x = some b := fun x b hb => by
    rw [hhin] at hb
    exact (get_only hb).2
  have hlow : ∀ x b, r.hin.get x = some b → x < r.hin.next := fun x b hb => by
    rw [hhin] at hb ⊢
    exact (get_only hb).1
  have hD : ∀ x, x ∈ r.rd → (hpR rs D hp0).get x = hp.get x := fun x hx => by
    rw [get_hpR, ← hlookr x]
    exact lookR_congr (hsplit (f := fun q => x ∈ q.wr) fun q hq hd hne => hmeet q hq hne (fun ha _ => (apart_parts ha).2.1 x hd hx) (fun ha _ => (apart_parts ha).2.2.2 x hd hx))
  have hHr := hH.less (hp' := r.hin) (fun x b hb => by
    obtain ⟨h1, h2⟩ := hrd x b hb
    rw [hD x h1]; exact h2)
  have hkeep := doOper_keep hcf hrun
  have hNF : NF (fun k => S0 k ∨ ∃ r ∈ rs, D r.i = true ∧ r.hin.next ≤ k ∧ k < r.out.next) r.hin r.out := fun k h1 h2 hs => by
    rcases hs with hs | ⟨q, hq, hdq, h3, h4⟩
    · exact hS0 k (Nat.le_trans hok.low h1) (Nat.lt_of_lt_of_le h2 (htop r hr)) hs
    · rw [erp] at hq
      rcases List.mem_append.1 hq with hq | hq
      · have := (hpost q hq).2; omega
      · rcases List.mem_cons.1 hq with rfl | hq
        · rw [hDr] at hdq; cases hdq
        · have := (hpre q hq).2; omega
  obtain ⟨_, hstep⟩ := doOper_sound (a := a) (w := w) hE hcf hrun hpc hkn hTL hHr hNF
  have hgoal := hstep K Q (fun u w1 hres => hK u w1 ?_)
  · unfold wpOp
    rw [hok.op]
    exact hgoal
  obtain ⟨ρ1, a1, a2, a3, a4⟩ := hres
  -- behind it
  have hS' : ∀ k, SN (fun k => S0 k ∨ ∃ r ∈ rs, D r.i = true ∧ r.hin.next ≤ k ∧ k < r.out.next) r.hin r.out k → (S0 k ∨ ∃ q ∈ rs, (D q.i || q.i == r.i) = true ∧ q.hin.next ≤ k ∧ k < q.out.next) := fun k hk => by
    rcases hk with (hk | ⟨q, hq, h1, h2⟩) | hk
    · exact .inl hk
    · exact .inr ⟨q, hq, by simp [h1], h2⟩
    · exact .inr ⟨r, hr, by simp, hk⟩
  have hself : ∀ q ∈ rs, q.i = r.i → q = r := fun q hq e => by
    rw [erp] at hq
    rcases List.mem_append.1 hq with hq | hq
    · have := (hpost q hq).1; omega
    · rcases List.mem_cons.1 hq with rfl | hq
      · rfl
      · have := (hpre q hq).1; omega
  have hwr : ∀ x, x ∈ r.wr → lookR rs (fun j => D j || j == r.i) x (hp0.get x) = r.out.get x := fun x hx => by
    have e : lookR rs (fun j => D j || j == r.i) x (hp0.get x) = lookR rs (fun j => decide (j ≤ r.i)) x (hp0.get x) := lookR_congr fun q hq hqx => by
      by_cases eq : q = r
      · subst eq; simp
      · have hni : q.i ≠ r.i := fun e => eq (hself q hq e)
        have := hmeet q hq eq (fun ha _ => (apart_parts ha).2.2.1 x hqx hx) (fun ha _ => (apart_parts ha).2.2.1 x hx hqx)
        show (D q.i || q.i == r.i) = decide (q.i ≤ r.i)
        rw [this, beq_false_of_ne hni, Bool.or_false, decide_eq_decide]
        omega
    rw [e, erp, lookR_post fun q hq => by have := (hpost q hq).1; simp; omega, lookR, if_pos (by simp [hx])]
  have hnwr : ∀ x, x ∉ r.wr → (hpR rs (fun j => D j || j == r.i) hp0).get x = (hpR rs D hp0).get x := fun x hx => by
    rw [get_hpR, get_hpR]
    exact lookR_congr fun q hq hqx => by
      have : q ≠ r := fun e => hx (e ▸ hqx)
      have hni : q.i ≠ r.i := fun e => this (hself q hq e)
      simp [hni]
  -- where each block of the new heap is told
  have hwhere : ∀ x b, (hpR rs (fun j => D j || j == r.i) hp0).get x = some b → r.out.get x = some b ∨ (r.hin.get x = none ∧ r.out.get x = none ∧ (hpR rs D hp0).get x = some b) := fun x b hb => by
    by_cases hx : x ∈ r.wr
    · rw [get_hpR, hwr x hx] at hb
      exact .inl hb
    · rw [hnwr x hx] at hb
      have hlog : x ∉ r.out.log ∧ x ∉ newKeys r.hin.next r.out.blks := by
        rw [hok.wr] at hx
        simp only [writes, List.mem_append, not_or] at hx
        exact hx
      by_cases hlt : x < r.hin.next
      · have hs := hkeep.same x hlt hlog.1
        cases hq : r.hin.get x with
        | none => exact .inr ⟨rfl, by rw [hs, hq], hb⟩
        | some c =>
          obtain ⟨h1, h2⟩ := hrd x c hq
          rw [hD x h1, h2] at hb
          obtain rfl := Option.some.inj hb
          exact .inl (by rw [hs, hq])
      · have hno : r.out.get x = none := by
          cases hq : r.out.get x with
          | none => rfl
          | some c => exact absurd (newKeys_mem hq (by omega)) hlog.2
        cases hq : r.hin.get x with
        | none => exact .inr ⟨rfl, hno, hb⟩
        | some c => exact absurd (hlow x c hq) hlt
  -- the temporary that it fills
  have htd : ∀ d, r.o.dst = some d → tmR rs (fun j => D j || j == r.i) d (tm0.getD d undef) = r.v := fun d hd => by
    have e : tmR rs (fun j => D j || j == r.i) d (tm0.getD d undef) = tmR rs (fun j => decide (j ≤ r.i)) d (tm0.getD d undef) := tmR_congr fun q hq hqd => by
      by_cases eq : q = r
      · subst eq; simp
      · have hni : q.i ≠ r.i := fun e => eq (hself q hq e)
        have := hmeet q hq eq (fun ha _ => (Oper.apart_spec (apart_parts ha).1).2.1 d hqd hd) (fun ha _ => (Oper.apart_spec (apart_parts ha).1).2.1 d hd hqd)
        show (D q.i || q.i == r.i) = decide (q.i ≤ r.i)
        rw [this, beq_false_of_ne hni, Bool.or_false, decide_eq_decide]
        omega
    rw [e, erp, tmR_post fun q hq => by have := (hpost q hq).1; simp; omega, tmR, if_pos (by simp [hd])]
  have htn : ∀ t, r.o.dst ≠ some t → tmR rs (fun j => D j || j == r.i) t (tm0.getD t undef) = tmR rs D t (tm0.getD t undef) := fun t ht => tmR_congr fun q hq hqt => by
    have : q ≠ r := fun e => ht (e ▸ hqt)
    have hni : q.i ≠ r.i := fun e => this (hself q hq e)
    simp [hni]
  have hSup : ∀ k, (S0 k ∨ ∃ q ∈ rs, D q.i = true ∧ q.hin.next ≤ k ∧ k < q.out.next) → (S0 k ∨ ∃ q ∈ rs, (D q.i || q.i == r.i) = true ∧ q.hin.next ≤ k ∧ k < q.out.next) := fun k hk => by
    rcases hk with hk | ⟨q, hq, h1, h2⟩
    · exact .inl hk
    · exact .inr ⟨q, hq, by simp [h1], h2⟩
  have hinD : ∀ x b, r.hin.get x = some b → (hpR rs D hp0).get x = some b := fun x b hb => by
    obtain ⟨h1, h2⟩ := hrd x b hb
    rw [hD x h1]; exact h2
  have hold : ∀ x b, (hpR rs D hp0).get x = some b → ρ1 x = ρ x := fun x b hb => a1 x (hH.dom x b hb)
  have hfar : ∀ x b, (hpR rs D hp0).get x = some b → r.hin.get x = none → w1.heap[ρ x]? = w.heap[ρ x]? := fun x b hb hn =>
    a4.old _ (hH.lt hb) fun n c hc hv he => by
      rcases hH.inj n x c b (hinD n c hc) hb he with h | ⟨h, _⟩
      · subst h
        rw [hn] at hc; cases hc
      · rw [hv] at h; cases h
  have hmix : ∀ x y b c, r.out.get x = some b → (hpR rs D hp0).get y = some c → r.hin.get y = none → ρ1 x = ρ1 y → b.isV = true ∧ c.isV = true := fun x y b c hx hy hn he => by
    rw [hold y c hy] at he
    rcases a4.new x b hx with ⟨m, d, hm, hv, e⟩ | e
    · rcases hH.inj m y d c (hinD m d hm) hy (e.symm.trans he) with h | h
      · subst h
        rw [hn] at hm; cases hm
      · rw [hv] at h; exact h
    · have := hH.lt hy
      omega
  refine ⟨fun j o ho hj e he hb => ?_, by rw [put_size, hsz], ?_, ρ1, fun k hk => (a1 k (.inl hk)).trans (hag k hk), fun t => ?_, ⟨fun ρ' ha x b hb => ?_, fun x b hb => ?_, fun x y b c hb hc he => ?_⟩, hFR.trans ⟨a4.os, a4.tape, a4.output, a4.size, fun k hk hn => a4.old k hk fun n b hb => hn n b (hinD n b hb), fun x b hb => ?_⟩⟩
  · show (D e.on || e.on == r.i) = true
    have hj' : (D j || j == r.i) = true := hj
    simp only [Bool.or_eq_true, beq_iff_eq] at hj'
    rcases hj' with hj' | rfl
    · simp [hcl j o ho hj' e he hb]
    · rw [hok.op] at ho
      obtain rfl := Option.some.inj ho
      simp [hready e he hb]
  · cases hd : r.o.dst with
    | none => exact hdf
    | some d => exact hdf
  · by_cases hd : r.o.dst = some t
    · rw [htd t hd, hd, put_get, if_pos ⟨rfl, by rw [hsz]; exact hok.dst t hd⟩]
      exact .inr (a3.up hS' (Ag.refl _ _))
    · rw [htn t hd]
      have : (a.put r.o.dst u).tmps.getD t undef = a.tmps.getD t undef := by
        cases hd' : r.o.dst with
        | none => rfl
        | some d => rw [put_get, if_neg (fun e => hd (by rw [hd', e.1]))]
      rw [this]
      exact (hT t).up hSup a1
  · rcases hwhere x b hb with hb | ⟨hn, _, hb⟩
    · exact a2.sat ρ' (fun k hk => ha k (hS' k hk)) x b hb
    · obtain ⟨o, ho, hs⟩ := hH.sat ρ' (fun k hk => (ha k (hSup k hk)).trans (a1 k hk)) x b hb
      exact ⟨o, by rw [hold x b hb, hfar x b hb hn]; exact ho, hs⟩
  · rcases hwhere x b hb with hb | ⟨hn, _, hb⟩
    · exact hS' x (a2.dom x b hb)
    · exact hSup x (hH.dom x b hb)
  · rcases hwhere x b hb with hb | ⟨hn, _, hb⟩ <;> rcases hwhere y c hc with hc | ⟨hn', _, hc⟩
    · exact a2.inj x y b c hb hc he
    · exact .inr (hmix x y b c hb hc hn' he)
    · exact .inr (hmix y x c b hc hb hn he.symm).symm
    · rw [hold x b hb, hold y c hc] at he
      exact hH.inj x y b c hb hc he
  · rcases hwhere x b hb with hb | ⟨hn, _, hb⟩
    · rcases a4.new x b hb with ⟨m, c, hm, hv, e⟩ | e
      · exact .inl ⟨m, c, hinD m c hm, hv, e⟩
      · exact .inr e
    · exact .inl ⟨x, b, hb, rfl, hold x b hb⟩
end
end Go.Proofs.Ytcpkieahnkfpoaa.Ev
