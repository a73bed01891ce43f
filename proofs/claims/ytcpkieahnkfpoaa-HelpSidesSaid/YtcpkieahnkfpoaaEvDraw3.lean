/- A region whose order is open does what the evaluator says, in whatever order (3). -/
import Derived.Test.YtcpkieahnkfpoaaEvDraw2
namespace Go.Proofs.Ytcpkieahnkfpoaa.Ev
open Go Go.RowKit

theorem Keep.merge {h hin out : Hp} {wr : List Nat} (hn : hin.next = h.next) (hk : Keep hin out) : Keep h (h.merge out wr) :=
  ⟨hn ▸ hk.le, fun _ _ hl => List.mem_append.2 (.inr hl), fun n _ hl => by
    rw [get_merge, if_neg (fun hx => hl (List.mem_append.2 (.inl (has_iff.1 hx))))]⟩

def undone (D : Nat → Bool) : Nat → Nat
  | 0 => 0
  | n + 1 => undone D n + (if D n = true then 0 else 1)
theorem undone_set {D : Nat → Bool} {i : Nat} (hD : D i = false) : ∀ {n : Nat}, undone (fun j => D j || j == i) n + (if i < n then 1 else 0) = undone D n
  | 0 => rfl
  | n + 1 => by
    have ih := undone_set (D := D) hD (n := n)
    simp only [undone]
    by_cases e : n = i
    · subst e
      rw [if_neg (Nat.lt_irrefl _)] at ih
      simp [hD]
      omega
    · have hb : (if (D n || n == i) = true then 0 else 1) = (if D n = true then 0 else 1) := by
        have : (n == i) = false := by simpa using e
        simp only [this, Bool.or_false]
      rw [hb]
      by_cases hl : i < n
      · rw [if_pos hl] at ih
        rw [if_pos (show i < n + 1 by omega)]
        omega
      · rw [if_neg hl] at ih
        rw [if_neg (show ¬ i < n + 1 by omega)]
        omega
theorem undone_zero {D : Nat → Bool} : ∀ {n : Nat}, undone D n = 0 → ∀ j, j < n → D j = true
  | 0, _, j, hj => by omega
  | n + 1, h, j, hj => by
    simp only [undone] at h
    by_cases hd : D n = true
    · by_cases e : j = n
      · rw [e]; exact hd
      · exact undone_zero (n := n) (by omega) j (by omega)
    · rw [if_neg hd] at h; omega
theorem undone_le {D : Nat → Bool} : ∀ {n : Nat}, undone D n ≤ n
  | 0 => Nat.le_refl _
  | n + 1 => by
    have := undone_le (D := D) (n := n)
    simp only [undone]
    split <;> omega

section
variable {E : Env} {cf : CallF} {ops : Array Oper}

theorem doDraw_keep (hcf : CfOk E.P cf) : ∀ (l : List Oper) (i : Nat) (kn : Kn) (fr : Fr) (bef : List (Nat × List Nat)) (rs : List Rec) (fr1 : Fr) (rs1 : List Rec),
    doDraw E cf ops l i kn fr bef rs = some (fr1, rs1) → Keep fr.hp fr1.hp
  | [], i, kn, fr, bef, rs, fr1, rs1, h => by
    simp only [doDraw, Option.some.injEq, Prod.mk.injEq] at h
    obtain ⟨rfl, rfl⟩ := h
    exact Keep.refl _
  | o :: rest, i, kn, fr, bef, rs, fr1, rs1, h => by
    simp only [doDraw] at h
    split at h
    · rename_i v out ds pc kn' ho
      obtain ⟨r, hr⟩ : ∃ r : Rec, r = ⟨i, o, touches fr.tm fr.hp o.op, writes (fr.hp.only (touches fr.tm fr.hp o.op)) out, fr.hp.only (touches fr.tm fr.hp o.op), out, v⟩ := ⟨_, rfl⟩
      rw [← hr] at h
      cases hck : drawOk ops rs r (aheadOf bef o.after.toList) fr.tm.length
      · rw [hck] at h
        cases h
      · rw [hck] at h
        have ih := doDraw_keep hcf rest _ _ _ _ _ _ _ h
        have hk := Keep.merge (h := fr.hp) (hin := fr.hp.only (touches fr.tm fr.hp o.op)) (wr := writes (fr.hp.only (touches fr.tm fr.hp o.op)) out) rfl (doOper_keep hcf ho)
        exact hk.trans ih
    · cases h

theorem doDraw_sound (hm : E.P.follows .mixedOrders = true) (hE : EqsOk E) (hcf : CfOk E.P cf) {id : Nat} {fr fr1 : Fr} {rs : List Rec} (h : doDraw E cf ops ops.toList 0 [] fr [] [] = some (fr1, rs)) :
    Keep fr.hp fr1.hp ∧ (∀ p ∈ fr.pc, p ∈ fr1.pc) ∧ ∀ (S : Nat → Prop) (ρ : Nat → Nat) (a : Act) (w : World) (Q : Exit → Act → World → Prop), FrR S ρ fr.tm fr.hp a w → NF S fr.hp fr1.hp → (∀ p ∈ fr1.pc, p) →
      (∀ a1 w1, After S ρ fr fr1 w a1 w1 → Q .normal a1 w1) → (Code.region id ops true).wp E.P Q a w := by
  obtain ⟨h1, h2, h3⟩ := doDraw_recs (tm0 := fr.tm) (hp0 := fr.hp) hcf hE _ _ _ _ _ _ _ _ h (fun k => by simp)
  refine ⟨doDraw_keep hcf _ _ _ _ _ _ _ _ h, h1, fun S ρ a w Q hf hN hpc hQ => wp_region_any hm ?_⟩
  obtain ⟨hR, hP, hT, hlen, hG, hup, hall, -⟩ := h3 hpc (fun t d ht => by simp [lookK] at ht) trivial trivial (fun _ => rfl) rfl (fun _ => rfl) (Nat.le_refl _) (fun q hq => by simp at hq) (fun j hj => by omega) (fun p hp => by simp at hp) (fun _ _ hm => hm) (fun _ _ _ => rfl)
  simp only [Array.length_toList, Nat.zero_add] at hup hall
  have hlow : ∀ r ∈ rs, fr.hp.next ≤ r.hin.next := fun r hr => by obtain ⟨_, _, _, hok⟩ := hR.at_ r hr; exact hok.low
  have hop : ∀ r ∈ rs, ops[r.i]? = some r.o := fun r hr => by obtain ⟨_, _, _, hok⟩ := hR.at_ r hr; exact hok.op
  have key : ∀ (fuel : Nat) (listed : Array Bool) (D : Nat → Bool) (a1 : Act) (w1 : World), listed.size = ops.size → (∀ j, listed.getD j false = D j) → undone D ops.size ≤ fuel →
      DInv ops fr.tm fr.hp rs S ρ w D a1 w1 → wpAny E.P .any ops Q fuel listed a1 w1 := by
    have hend : ∀ (D : Nat → Bool) (a1 : Act) (w1 : World), (∀ j, j < ops.size → D j = true) → DInv ops fr.tm fr.hp rs S ρ w D a1 w1 → Q .normal a1 w1 := fun D a1 w1 hD hI => by
      obtain ⟨_, hsz, hdf, ρ1, b1, b2, b3, b4⟩ := hI
      have hDr : ∀ r ∈ rs, D r.i = true := fun r hr => hD r.i (hup r hr).1
      have hS : ∀ k, (S k ∨ ∃ r ∈ rs, D r.i = true ∧ r.hin.next ≤ k ∧ k < r.out.next) → SN S fr.hp fr1.hp k := fun k hk => by
        rcases hk with hk | ⟨r, hr, _, h5, h6⟩
        · exact .inl hk
        · exact .inr ⟨Nat.le_trans (hlow r hr) h5, Nat.lt_of_lt_of_le h6 (hup r hr).2⟩
      have hget : ∀ x, (hpR rs D fr.hp).get x = fr1.hp.get x := fun x => by
        rw [get_hpR, hG]
        exact lookR_congr fun r hr _ => hDr r hr
      refine hQ a1 w1 ⟨ρ1, b1, ⟨by rw [hlen, hsz], fun t => ?_, (b3.up hS).less fun n b hb => by rw [hget]; exact hb, hdf⟩, b4.less fun n b hb => by rw [hget]; exact hb⟩
      have := (b2 t).up hS (Ag.refl _ _)
      rw [tmR_congr (D' := fun _ => true) (fun r hr _ => hDr r hr), ← hT] at this
      exact this
    intro fuel
    induction fuel with
    | zero =>
      intro listed D a1 w1 hs hl hu hI
      have hD := undone_zero (D := D) (n := ops.size) (by omega)
      refine ⟨?_, hend D a1 w1 hD hI⟩
      rw [List.eq_nil_iff_forall_not_mem]
      intro j hj
      obtain ⟨h5, o, ho, _⟩ := mem_ready.1 hj
      have hlt : j < ops.size := (Array.getElem?_eq_some_iff.1 ho).1
      have := hl j
      rw [hD j hlt] at this
      simp only [Array.getD_eq_getD_getElem?, Array.getElem?_eq_getElem (hs ▸ hlt), Option.getD_some] at h5 this
      rw [h5] at this; cases this
    | succ fuel ih =>
      intro listed D a1 w1 hs hl hu hI
      have hgetD : ∀ j, j < ops.size → listed.getD j true = D j := fun j hlt => by
        rw [← hl j]
        simp only [Array.getD_eq_getD_getElem?, Array.getElem?_eq_getElem (hs ▸ hlt), Option.getD_some]
      refine ⟨fun hr => hend D a1 w1 (fun j => ?_) hI, fun i hi => ?_⟩
      · induction j using Nat.strongRecOn with
        | _ j ihj =>
          intro hj
          obtain ⟨r, hrr, rfl⟩ := hall j hj
          obtain ⟨_, _, _, hok⟩ := hR.at_ r hrr
          cases hd : D r.i with
          | true => rfl
          | false =>
            have : r.i ∈ Region.ready .any ops listed := mem_ready.2 ⟨by rw [hgetD _ hj, hd], r.o, hok.op, fun e he hb => by
              have hlt := hok.edges e he hb
              rw [hl]
              exact ihj e.on hlt (Nat.lt_trans hlt hj)⟩
            rw [hr] at this
            simp at this
      · obtain ⟨h5, o, ho, h6⟩ := mem_ready.1 hi
        have hlt : i < ops.size := (Array.getElem?_eq_some_iff.1 ho).1
        obtain ⟨r, hrr, rfl⟩ := hall i hlt
        have hD : D r.i = false := by rw [← hgetD _ hlt]; exact h5
        have ho' := hop r hrr
        rw [ho'] at ho
        obtain rfl := Option.some.inj ho
        refine draw_step hE hcf hR hP (top := fr1.hp.next) hN (fun q hq => (hup q hq).2) hI hrr hD (fun e he hb => by rw [← hl]; exact h6 e he hb) _ Q fun u w2 hI2 => ih _ (fun j => D j || j == r.i) _ w2 (by simp [hs]) (fun j => ?_) ?_ hI2
        · rw [Array.getD_eq_getD_getElem?, Array.getElem?_setIfInBounds]
          by_cases e : r.i = j
          · subst e
            simp [hs, hlt]
          · rw [if_neg e, ← Array.getD_eq_getD_getElem?, hl]
            have : (j == r.i) = false := by simpa using fun h => e h.symm
            rw [this, Bool.or_false]
        · have := undone_set (D := D) hD (n := ops.size)
          rw [if_pos hlt] at this
          omega
  refine key ops.size _ (fun _ => false) a _ (by simp) (fun j => ?_) undone_le ⟨(fun j o _ hj => nomatch hj), hf.size.symm, hf.defers, ρ, Ag.refl _ _, fun t => ?_, ?_, ?_⟩
  · simp only [Array.getD_eq_getD_getElem?, Array.getElem?_replicate]
    split <;> rfl
  · have e : tmR rs (fun _ => false) t (fr.tm.getD t undef) = fr.tm.getD t undef := by
      have := tmR_post (D := fun _ => false) (x := t) (b := fr.tm.getD t undef) (l := []) (post := rs) (fun _ _ => rfl)
      simpa [tmR] using this
    rw [e]
    exact (hf.tmp t).up (fun k hk => .inl hk) (Ag.refl _ _)
  all_goals
    have hget : ∀ x, (hpR rs (fun _ => false) fr.hp).get x = fr.hp.get x := fun x => by
      rw [get_hpR]
      have := lookR_post (D := fun _ => false) (x := x) (b := fr.hp.get x) (l := []) (post := rs) (fun _ _ => rfl)
      simpa [lookR] using this
  · exact ((hf.heap.drew).up (fun k hk => .inl hk)).less fun n b hb => by rw [← hget]; exact hb
  · exact ⟨rfl, rfl, rfl, Nat.le_refl _, fun _ _ _ => rfl, fun n b hb => .inl ⟨n, b, by rw [← hget]; exact hb, rfl, rfl⟩⟩
end
end Go.Proofs.Ytcpkieahnkfpoaa.Ev
