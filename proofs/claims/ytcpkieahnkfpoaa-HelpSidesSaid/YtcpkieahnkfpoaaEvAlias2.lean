/- A frame in which two names stand for one row that is only read. -/
import Derived.Test.YtcpkieahnkfpoaaEvAlias
namespace Go.Proofs.Ytcpkieahnkfpoaa.Ev
open Go Go.RowKit

def vdup (L : List Nat) : List (Nat × Blk) → Bool
  | [] => true
  | (n, b) :: r => (r.all fun p => !(Nat.beq (L.getD n 0) (L.getD p.1 0)) || (b.isV && p.2.isV)) && vdup L r
theorem vdup_mem {L : List Nat} : ∀ {l : List (Nat × Blk)}, vdup L l = true → ∀ n m b c, (n, b) ∈ l → (m, c) ∈ l → L.getD n 0 = L.getD m 0 → (n, b) = (m, c) ∨ (b.isV = true ∧ c.isV = true)
  | [], _, n, m, b, c, h, _, _ => by simp at h
  | (k, d) :: r, h, n, m, b, c, hn, hm, he => by
    simp only [vdup, Bool.and_eq_true, List.all_eq_true] at h
    have key : ∀ (p : Nat × Blk), p ∈ r → L.getD k 0 = L.getD p.1 0 → d.isV = true ∧ p.2.isV = true := fun p hp e => by
      have := h.1 p hp
      rw [e, Nat.beq_refl] at this
      simpa using this
    rcases List.mem_cons.1 hn with e1 | hn'
    · injection e1 with e1 e2
      subst e1; subst e2
      rcases List.mem_cons.1 hm with e1 | hm'
      · exact .inl e1.symm
      · exact .inr (key (m, c) hm' he)
    · rcases List.mem_cons.1 hm with e1 | hm'
      · injection e1 with e1 e2
        subst e1; subst e2
        have := key (n, b) hn' he.symm
        exact .inr ⟨this.2, this.1⟩
      · exact vdup_mem h.2 n m b c hn' hm' he
theorem rnL_get (σ : Nat → Nat) : ∀ (l : List Value) (t : Nat), (rnL σ l).getD t undef = rn σ (l.getD t undef)
  | [], t => rfl
  | v :: l, 0 => rfl
  | v :: l, t + 1 => by
    have := rnL_get σ l t
    simpa [rnL] using this
theorem nmL_mem : ∀ {l : List Value} {t k : Nat}, k ∈ nm (l.getD t undef) → k ∈ nmL l
  | [], t, k, h => by simp [undef, nm, nmA, nmL] at h
  | v :: l, 0, k, h => by
    simp only [nmL, List.mem_append]
    exact .inl h
  | v :: l, t + 1, k, h => by
    simp only [nmL, List.mem_append]
    exact .inr (nmL_mem (t := t) (by simpa using h))
theorem alias_fr {L : List Nat} {G F : Fr} (htm : G.tm = rnL (fun k => L.getD k 0) F.tm) (hbnd : allLt F.hp.next (nmL F.tm ++ tellers.tellB F.hp.blks) = true) (hkeys : keysIn F.hp.next F.hp.blks = true) (hin : laysIn G.hp (fun k => L.getD k 0) F.hp.blks) (hv : vdup L F.hp.blks = true) {S : Nat → Prop} {ρ : Nat → Nat} {a : Act} {w : World} (hf : FrR S ρ G.tm G.hp a w) :
    FrR (fun k => k < F.hp.next) (fun k => ρ (L.getD k 0)) F.tm F.hp a w ∧ FR ρ (fun k => ρ (L.getD k 0)) G.hp F.hp w w := by
  have hb : ∀ n b, F.hp.get n = some b → n < F.hp.next ∧ G.hp.get (L.getD n 0) = some (b.rn fun k => L.getD k 0) ∧ ∀ k ∈ b.nm, k < F.hp.next := fun n b h => by
    have hm := lookB_mem (show lookB n F.hp.blks = some b from h)
    exact ⟨(keysIn_lt hkeys n b hm).1, laysIn_get hin n b h, fun k hk => allLt_mem hbnd k (List.mem_append.2 (.inr (tellB_blk hm hk)))⟩
  have hlen : F.tm.length = G.tm.length := by
    rw [htm, rnL_map, List.length_map]
  refine ⟨⟨by rw [hlen]; exact hf.size, fun t => ?_, ⟨fun ρ' ha n b h => ?_, fun n b h => (hb n b h).1, fun n m b c h1 h2 he => ?_⟩, hf.defers⟩, ⟨rfl, rfl, rfl, Nat.le_refl _, fun _ _ _ => rfl, fun n b h => ?_⟩⟩
  · have ht := hf.tmp t
    rw [htm, rnL_get] at ht
    rcases ht with h | h
    · refine .inl ?_
      cases hv : F.tm.getD t undef with
      | string s => rfl
      | pointer a => rw [hv] at h; cases a <;> simp [rn, isDead] at h
      | slice a n c =>
        rw [hv] at h
        cases a with
        | none => simp [rn, isDead] at h
        | some x =>
          obtain ⟨b, o, s⟩ := x
          cases s <;> simp [rn, isDead] at h
      | _ => rw [hv] at h; simp [rn, isDead] at h
    · refine .inr fun ρ' ha => ?_
      rw [h.self, ren_rn]
      exact (ren_congr _ fun k hk => (ha k (allLt_mem hbnd k (List.mem_append.2 (.inl (nmL_mem hk)))))).symm
  · obtain ⟨h1, h2, h3⟩ := hb n b h
    obtain ⟨o, ho, hs⟩ := hf.heap.sat ρ (Ag.refl _ _) _ _ h2
    exact ⟨o, ho, Blk.sat_congr (ρ := fun k => ρ (L.getD k 0)) (fun k hk => ha k (h3 k hk)) (Blk.sat_rn.1 hs)⟩
  · obtain ⟨k1, q1, _⟩ := hb n b h1
    obtain ⟨k2, q2, _⟩ := hb m c h2
    rcases hf.heap.inj _ _ _ _ q1 q2 he with e | e
    · rcases vdup_mem hv n m b c (lookB_mem h1) (lookB_mem h2) e with e' | e'
      · injection e' with e' _
        exact .inl e'
      · exact .inr e'
    · rw [Blk.rn_isV, Blk.rn_isV] at e
      exact .inr e
  · obtain ⟨_, h2, _⟩ := hb n b h
    exact .inl ⟨_, _, h2, Blk.rn_isV _ _, rfl⟩
theorem KC.alias {E : Env} {m0 : Nat} {ex : Ex} {K : List Kt} {G F : Fr} {Fin : Ex → Fr → Prop} (L : List Nat) (hC : KC E m0 ex K F Fin) (htm : G.tm = rnL (fun k => L.getD k 0) F.tm) (hbnd : allLt F.hp.next (nmL F.tm ++ tellers.tellB F.hp.blks) = true) (hkeys : keysIn F.hp.next F.hp.blks = true) (hin : laysIn G.hp (fun k => L.getD k 0) F.hp.blks) (hv : vdup L F.hp.blks = true) (hns : ∀ k, k < m0 → L.getD k 0 = k) : KC E m0 ex K G Fin := by
  intro ρ a w Q hf hQ
  obtain ⟨h2, h3⟩ := alias_fr htm hbnd hkeys hin hv hf
  exact hC _ a w Q h2 fun ex fr1 ρ1 a1 w1 hF hm hf1 hfr => hQ ex fr1 ρ1 a1 w1 hF (fun k hk => by rw [hm k hk, hns k hk]) hf1 (h3.trans hfr)
end Go.Proofs.Ytcpkieahnkfpoaa.Ev
