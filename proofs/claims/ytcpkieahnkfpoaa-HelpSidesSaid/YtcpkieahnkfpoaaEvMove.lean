/- Names may be turned; what is no more needed may be forgotten. -/
import Derived.Test.YtcpkieahnkfpoaaEvCode
namespace Go.Proofs.Ytcpkieahnkfpoaa.Ev
open Go Go.RowKit

mutual
def rn (σ : Nat → Nat) : Value → Value
  | .pointer (some a) => .pointer (some ⟨σ a.block, a.off, none⟩)
  | .slice (some a) n c => .slice (some ⟨σ a.block, a.off, match a.spot with | none => none | some k => some (σ k)⟩) n c
  | .func fn first cap => .func fn (rnA σ first) (rnA σ cap)
  | .agg cs => .agg (rnA σ cs)
  | .tuple vs => .tuple (rnA σ vs)
  | v => v
def rnA (σ : Nat → Nat) : Array Value → Array Value
  | ⟨l⟩ => ⟨rnL σ l⟩
def rnL (σ : Nat → Nat) : List Value → List Value
  | [] => []
  | v :: l => rn σ v :: rnL σ l
end
mutual
def nm : Value → List Nat
  | .pointer (some a) => [a.block]
  | .slice (some a) _ _ => match a.spot with
    | none => [a.block]
    | some k => [a.block, k]
  | .func _ f c => nmA f ++ nmA c
  | .agg cs => nmA cs
  | .tuple vs => nmA vs
  | _ => []
def nmA : Array Value → List Nat
  | ⟨l⟩ => nmL l
def nmL : List Value → List Nat
  | [] => []
  | v :: l => nm v ++ nmL l
end
mutual
theorem ren_rn (ρ σ : Nat → Nat) : ∀ v, ren ρ (rn σ v) = ren (ρ ∘ σ) v
  | .pointer none => rfl
  | .pointer (some a) => rfl
  | .slice none _ _ => rfl
  | .slice (some ⟨b, o, none⟩) n c => rfl
  | .slice (some ⟨b, o, some k⟩) n c => rfl
  | .func fn f c => by simp only [rn, ren, renA_rn ρ σ f, renA_rn ρ σ c]
  | .agg cs => by simp only [rn, ren, renA_rn ρ σ cs]
  | .tuple vs => by simp only [rn, ren, renA_rn ρ σ vs]
  | .bool _ | .int _ _ | .float _ _ | .complex _ _ _ | .string _ | .map _ | .chan _ | .nilFunc | .iface _ _ | .nilIface => rfl
theorem renA_rn (ρ σ : Nat → Nat) : ∀ a, renA ρ (rnA σ a) = renA (ρ ∘ σ) a
  | ⟨l⟩ => by simp only [rnA, renA, renL_rn ρ σ l]
theorem renL_rn (ρ σ : Nat → Nat) : ∀ l, renL ρ (rnL σ l) = renL (ρ ∘ σ) l
  | [] => rfl
  | v :: l => by simp only [rnL, renL, ren_rn ρ σ v, renL_rn ρ σ l]
end
mutual
theorem ren_congr {ρ ρ' : Nat → Nat} : ∀ v, (∀ k ∈ nm v, ρ' k = ρ k) → ren ρ' v = ren ρ v
  | .pointer none, _ => rfl
  | .pointer (some a), h => by simp only [ren, renAddr, h a.block (by simp [nm])]
  | .slice none _ _, _ => rfl
  | .slice (some ⟨b, o, none⟩) n c, h => by simp only [ren, renAddr, h b (by simp [nm])]
  | .slice (some ⟨b, o, some k⟩) n c, h => by simp only [ren, renAddr, h b (by simp [nm]), h k (by simp [nm])]
  | .func fn f c, h => by
    simp only [nm, List.mem_append] at h
    simp only [ren, renA_congr f (fun k hk => h k (.inl hk)), renA_congr c (fun k hk => h k (.inr hk))]
  | .agg cs, h => by simp only [ren, renA_congr cs h]
  | .tuple vs, h => by simp only [ren, renA_congr vs h]
  | .bool _, _ | .int _ _, _ | .float _ _, _ | .complex _ _ _, _ | .string _, _ | .map _, _ | .chan _, _ | .nilFunc, _ | .iface _ _, _ | .nilIface, _ => rfl
theorem renA_congr {ρ ρ' : Nat → Nat} : ∀ a, (∀ k ∈ nmA a, ρ' k = ρ k) → renA ρ' a = renA ρ a
  | ⟨l⟩, h => by simp only [renA, renL_congr l h]
theorem renL_congr {ρ ρ' : Nat → Nat} : ∀ l, (∀ k ∈ nmL l, ρ' k = ρ k) → renL ρ' l = renL ρ l
  | [], _ => rfl
  | v :: l, h => by
    simp only [nmL, List.mem_append] at h
    simp only [renL, ren_congr v (fun k hk => h k (.inl hk)), renL_congr l (fun k hk => h k (.inr hk))]
end
def Blk.rn (σ : Nat → Nat) : Blk → Blk
  | .cells cs ty => .cells (rnL σ cs) ty
  | .own b c => .own (b.rn σ) (σ c)
  | b => b
def Blk.nm : Blk → List Nat
  | .cells cs _ => nmL cs
  | .own b c => c :: b.nm
  | _ => []
theorem rnL_map (σ : Nat → Nat) : ∀ l, rnL σ l = l.map (rn σ)
  | [] => rfl
  | v :: l => by simp only [rnL, List.map_cons, rnL_map σ l]
theorem Blk.rn_isV (σ : Nat → Nat) (b : Blk) : (b.rn σ).isV = b.isV := by cases b <;> rfl
theorem Blk.rn_esz (σ : Nat → Nat) (b : Blk) : (b.rn σ).esz = b.esz := by cases b <;> rfl
theorem Blk.rn_len (σ : Nat → Nat) (b : Blk) : (b.rn σ).len = b.len := by cases b <;> rfl
theorem Blk.sat_rn {ρ σ : Nat → Nat} {b : Blk} {o : Obj} : (b.rn σ).sat ρ o ↔ b.sat (ρ ∘ σ) o := by
  induction b generalizing o with
  | cells cs ty =>
    simp only [Blk.rn, Blk.sat]
    have : (rnL σ cs).map (ren ρ) = cs.map (ren (ρ ∘ σ)) := by
      rw [rnL_map, List.map_map]
      congr 1
      funext v
      exact ren_rn ρ σ v
    rw [this]
  | own b c ih =>
    simp only [Blk.rn, Blk.sat, ih, Blk.rn_esz, Blk.rn_len, Function.comp]
  | _ => exact Iff.rfl
theorem Blk.sat_congr {ρ ρ' : Nat → Nat} {b : Blk} {o : Obj} (h : ∀ k ∈ b.nm, ρ' k = ρ k) (hs : b.sat ρ o) : b.sat ρ' o := by
  induction b generalizing o with
  | cells cs ty =>
    simp only [Blk.sat] at hs ⊢
    have := renL_congr (ρ := ρ) (ρ' := ρ') cs h
    rw [renL_map, renL_map] at this
    rw [this]
    exact hs
  | own b c ih =>
    simp only [Blk.nm, List.mem_cons, forall_eq_or_imp] at h
    simp only [Blk.sat, h.1] at hs ⊢
    exact ⟨ih h.2 hs.1, hs.2⟩
  | _ => exact hs

/-! ### A frame whose names are told anew -/
def idx (n : Nat) : List Nat → Nat → Nat
  | [], _ => 0
  | m :: r, j => bif Nat.beq m n then j else idx n r (j + 1)
theorem idx_get {n : Nat} : ∀ {l : List Nat} {j : Nat}, n ∈ l → ∃ i, idx n l j = j + i ∧ l[i]? = some n
  | [], _, h => by simp at h
  | m :: r, j, h => by
    simp only [idx]
    cases hm : Nat.beq m n
    · simp only [cond_false]
      rcases List.mem_cons.1 h with rfl | h
      · exact absurd rfl (bne_nat hm)
      · obtain ⟨i, h1, h2⟩ := idx_get (l := r) (j := j + 1) h
        exact ⟨i + 1, by rw [h1]; omega, by simpa using h2⟩
    · simp only [cond_true]
      exact ⟨0, rfl, by simp [beq_nat hm]⟩
def allHas (ns : List Nat) : List Nat → Bool
  | [] => true
  | n :: r => bif has n ns then allHas ns r else false
theorem allHas_mem {ns : List Nat} : ∀ {l : List Nat}, allHas ns l = true → ∀ n ∈ l, n ∈ ns
  | [], _, n, hn => by simp at hn
  | m :: r, h, n, hn => by
    simp only [allHas] at h
    cases hm : has m ns
    · simp only [hm, cond_false, Bool.false_eq_true] at h
    · simp only [hm, cond_true] at h
      rcases List.mem_cons.1 hn with rfl | hn
      · exact has_iff.1 hm
      · exact allHas_mem h n hn
def nodupB : List Nat → Bool
  | [] => true
  | n :: r => bif has n r then false else nodupB r
theorem nodupB_get {l : List Nat} (h : nodupB l = true) {i j n : Nat} (hi : l[i]? = some n) (hj : l[j]? = some n) : i = j := by
  induction l generalizing i j with
  | nil => simp at hi
  | cons m r ih =>
    simp only [nodupB] at h
    cases hm : has m r
    · simp only [hm, cond_false] at h
      have hnot : m ∉ r := fun hx => by rw [has_iff.2 hx] at hm; cases hm
      cases i with
      | zero =>
        cases j with
        | zero => rfl
        | succ j =>
          simp only [List.getElem?_cons_zero, Option.some.injEq, List.getElem?_cons_succ] at hi hj
          subst hi
          exact absurd (List.mem_of_getElem? hj) hnot
      | succ i =>
        cases j with
        | zero =>
          simp only [List.getElem?_cons_zero, Option.some.injEq, List.getElem?_cons_succ] at hi hj
          subst hj
          exact absurd (List.mem_of_getElem? hi) hnot
        | succ j =>
          simp only [List.getElem?_cons_succ] at hi hj
          rw [ih h hi hj]
    · simp only [hm, cond_true, Bool.false_eq_true] at h

def relB (hp : Hp) (ns : List Nat) : List Nat → Nat → Option (List (Nat × Blk))
  | [], _ => some []
  | n :: r, j => match relB hp ns r (j + 1) with
    | none => none
    | some l => match hp.get n with
      | none => some l
      | some b => bif allHas ns b.nm then some ((j, b.rn fun k => idx k ns 0) :: l) else none
def relT (ns live : List Nat) : List Value → Nat → Option (List Value)
  | [], _ => some []
  | v :: r, t => match relT ns live r (t + 1) with
    | none => none
    | some l => bif has t live then (bif allHas ns (nm v) then some (rn (fun k => idx k ns 0) v :: l) else none) else some (.string ⟨#[]⟩ :: l)
/-- The frame of which the temporaries 'live' are known, the block ns[j] by the name j. -/
def relab (ns live : List Nat) (m0 : Nat) (ds : List Dec) (G : Fr) : Option Fr :=
  bif nodupB ns then
    match relT ns live G.tm 0, relB G.hp ns ns 0 with
    | some tm, some bs => some ⟨tm, ⟨bs, ns.length, below m0 G.hp.log⟩, ds, []⟩
    | _, _ => none
  else none

theorem relB_some {hp : Hp} {ns : List Nat} : ∀ {l : List Nat} {j : Nat} {bs : List (Nat × Blk)}, relB hp ns l j = some bs → ∀ k b, lookB k bs = some b →
    ∃ i n b0, l[i]? = some n ∧ k = j + i ∧ hp.get n = some b0 ∧ b = b0.rn (fun k => idx k ns 0) ∧ ∀ x ∈ b0.nm, x ∈ ns
  | [], j, bs, h, k, b, hb => by
    simp only [relB, Option.some.injEq] at h
    subst h
    simp [lookB] at hb
  | n :: r, j, bs, h, k, b, hb => by
    simp only [relB] at h
    split at h
    · cases h
    · rename_i l hl
      have ih := relB_some (l := r) (j := j + 1) hl k b
      have ih' : lookB k l = some b → ∃ i n' b0, (n :: r)[i]? = some n' ∧ k = j + i ∧ hp.get n' = some b0 ∧ b = b0.rn (fun k => idx k ns 0) ∧ ∀ x ∈ b0.nm, x ∈ ns := fun q => by
        obtain ⟨i, n', b0, h1, h2, h3⟩ := ih q
        exact ⟨i + 1, n', b0, by simpa using h1, by omega, h3⟩
      split at h
      · simp only [Option.some.injEq] at h
        subst h
        exact ih' hb
      · rename_i b0 hg
        cases ha : allHas ns b0.nm
        · simp only [ha, cond_false, reduceCtorEq] at h
        · simp only [ha, cond_true, Option.some.injEq] at h
          subst h
          simp only [lookB] at hb
          cases hk : Nat.beq j k
          · simp only [hk, cond_false] at hb
            exact ih' hb
          · simp only [hk, cond_true, Option.some.injEq] at hb
            exact ⟨0, n, b0, rfl, (beq_nat hk).symm, hg, hb.symm, allHas_mem ha⟩
theorem relT_some {ns live : List Nat} : ∀ {l : List Value} {t : Nat} {tm : List Value}, relT ns live l t = some tm → tm.length = l.length ∧ ∀ k, k < l.length → isDead (tm.getD k undef) = true ∨ (tm.getD k undef = rn (fun k => idx k ns 0) (l.getD k undef) ∧ ∀ x ∈ nm (l.getD k undef), x ∈ ns)
  | [], t, tm, h => by
    simp only [relT, Option.some.injEq] at h
    subst h
    exact ⟨rfl, fun k hk => by simp at hk⟩
  | v :: r, t, tm, h => by
    simp only [relT] at h
    split at h
    · cases h
    · rename_i l hl
      obtain ⟨ih1, ih2⟩ := relT_some hl
      have step : ∀ u, (isDead u = true ∨ (u = rn (fun k => idx k ns 0) v ∧ ∀ x ∈ nm v, x ∈ ns)) → (u :: l).length = (v :: r).length ∧ ∀ k, k < (v :: r).length → isDead ((u :: l).getD k undef) = true ∨ ((u :: l).getD k undef = rn (fun k => idx k ns 0) ((v :: r).getD k undef) ∧ ∀ x ∈ nm ((v :: r).getD k undef), x ∈ ns) := fun u hu => by
        refine ⟨by simp [ih1], fun k hk => ?_⟩
        cases k with
        | zero => exact hu
        | succ k => exact ih2 k (by simpa using hk)
      cases ht : has t live
      · simp only [ht, cond_false, Option.some.injEq] at h
        subst h
        exact step _ (.inl rfl)
      · simp only [ht, cond_true] at h
        cases ha : allHas ns (nm v)
        · simp only [ha, cond_false, reduceCtorEq] at h
        · simp only [ha, cond_true, Option.some.injEq] at h
          subst h
          exact step _ (.inr ⟨rfl, allHas_mem ha⟩)

theorem relab_ok {ns live : List Nat} {m0 : Nat} {ds : List Dec} {G F : Fr} (h : relab ns live m0 ds G = some F) {S : Nat → Prop} {ρ : Nat → Nat} {a : Act} {w : World} (hf : FrR S ρ G.tm G.hp a w) :
    F.hp.next = ns.length ∧ FrR (fun k => k < F.hp.next) (fun k => ρ (ns.getD k 0)) F.tm F.hp a w ∧ FR ρ (fun k => ρ (ns.getD k 0)) G.hp F.hp w w := by
  unfold relab at h
  cases hd : nodupB ns
  · simp only [hd, cond_false, reduceCtorEq] at h
  · simp only [hd, cond_true] at h
    split at h
    · rename_i tm bs ht hb
      simp only [Option.some.injEq] at h
      subst h
      obtain ⟨hlen, htm⟩ := relT_some ht
      have hinv : ∀ x ∈ ns, idx x ns 0 < ns.length ∧ ns.getD (idx x ns 0) 0 = x := fun x hx => by
        obtain ⟨i, h1, h2⟩ := idx_get (j := 0) hx
        rw [h1, Nat.zero_add]
        exact ⟨(List.getElem?_eq_some_iff.1 h2).1, by simp [h2]⟩
      have hB : ∀ k b, lookB k bs = some b → ∃ n b0, ns[k]? = some n ∧ G.hp.get n = some b0 ∧ b = b0.rn (fun k => idx k ns 0) ∧ ∀ x ∈ b0.nm, x ∈ ns := fun k b hk => by
        obtain ⟨i, n, b0, h1, h2, h3⟩ := relB_some hb k b hk
        rw [Nat.zero_add] at h2
        subst h2
        exact ⟨n, b0, h1, h3⟩
      have hrho : ∀ k n, ns[k]? = some n → ρ (ns.getD k 0) = ρ n := fun k n hk => by simp [hk]
      refine ⟨rfl, ⟨by rw [hlen]; exact hf.size, fun t => ?_, ⟨fun ρ' ha k b hk => ?_, fun k b hk => ?_, fun k m b c hk hm he => ?_⟩, hf.defers⟩, ⟨rfl, rfl, rfl, Nat.le_refl _, fun _ _ _ => rfl, fun k b hk => ?_⟩⟩
      · by_cases hlt : t < G.tm.length
        · rcases htm t hlt with h1 | ⟨h1, h2⟩
          · exact .inl h1
          · rcases hf.tmp t with h3 | h3
            · refine .inl ?_
              rw [h1]
              cases hv : G.tm.getD t undef with
              | string s => rfl
              | _ => rw [hv] at h3; cases h3
            · refine .inr fun ρ' ha => ?_
              rw [h1, ren_rn, h3.self]
              refine (ren_congr _ fun k hk => ?_).symm
              obtain ⟨q1, q2⟩ := hinv k (h2 k hk)
              show ρ' (idx k ns 0) = ρ k
              rw [ha _ q1]
              show ρ (ns.getD (idx k ns 0) 0) = ρ k
              rw [q2]
        · have e1 : tm.getD t undef = undef := by rw [List.getD_eq_getElem?_getD, List.getElem?_eq_none (by omega)]; rfl
          have e2 : a.tmps.getD t undef = undef := by rw [Array.getD_eq_getD_getElem?, Array.getElem?_eq_none (by have := hf.size; omega)]; rfl
          show VRd _ _ (tm.getD t undef) (a.tmps.getD t undef)
          rw [e1, e2]
          exact .inr fun _ _ => rfl
      · obtain ⟨n, b0, h1, h2, rfl, h4⟩ := hB k b hk
        obtain ⟨o, ho, hs⟩ := hf.heap.sat ρ (Ag.refl _ _) n b0 h2
        refine ⟨o, by rw [hrho k n h1]; exact ho, Blk.sat_rn.2 (Blk.sat_congr (fun x hx => ?_) hs)⟩
        obtain ⟨q1, q2⟩ := hinv x (h4 x hx)
        show ρ' (idx x ns 0) = ρ x
        rw [ha _ q1]
        show ρ (ns.getD (idx x ns 0) 0) = ρ x
        rw [q2]
      · obtain ⟨n, b0, h1, _⟩ := hB k b hk
        exact (List.getElem?_eq_some_iff.1 h1).1
      · obtain ⟨n, b0, h1, h2, rfl, _⟩ := hB k b hk
        obtain ⟨n', b0', h1', h2', rfl, _⟩ := hB m c hm
        rw [hrho k n h1, hrho m n' h1'] at he
        rw [Blk.rn_isV, Blk.rn_isV]
        rcases hf.heap.inj n n' b0 b0' h2 h2' he with h | h
        · subst h
          exact .inl (nodupB_get hd h1 h1')
        · exact .inr h
      · obtain ⟨n, b0, h1, h2, rfl, _⟩ := hB k b hk
        exact .inl ⟨n, b0, h2, (Blk.rn_isV _ _).symm, hrho k n h1⟩
    · cases h
end Go.Proofs.Ytcpkieahnkfpoaa.Ev
