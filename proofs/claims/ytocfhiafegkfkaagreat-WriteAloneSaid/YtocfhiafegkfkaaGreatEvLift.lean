/- What a call comes to, by its own names, is what it comes to in any heap. -/
import Derived.Test.YtocfhiafegkfkaaGreatEvCode
namespace Go.Proofs.YtocfhiafegkfkaaGreat.Ev
open Go Go.RowKit

mutual
def rn (σ : Nat → Nat) : Value → Value
  | .pointer (some a) => .pointer (some ⟨σ a.block, a.off, none⟩)
  | .slice (some a) n c => .slice (some ⟨σ a.block, a.off, match a.spot with | none => none | some k => some (σ k)⟩) n c
  | .iface t v => .iface t (rn σ v)
  | .func fn first cap => .func fn (rnA σ first) (rnA σ cap)
  | .agg cs => .agg (rnA σ cs)
  | .tuple vs => .tuple (rnA σ vs)
  | v => v
def rnA (σ : Nat → Nat) : Array Value → Array Value
  | ⟨l⟩ => ⟨rnL σ l⟩
def rnL (σ : Nat → Nat) : List Value → List Value
  | [] => []
  | v :: l => rn σ v :: rnL σ l
end
mutual
def nm : Value → List Nat
  | .pointer (some a) => [a.block]
  | .slice (some a) _ _ => match a.spot with
    | none => [a.block]
    | some k => [a.block, k]
  | .iface _ v => nm v
  | .func _ f c => nmA f ++ nmA c
  | .agg cs => nmA cs
  | .tuple vs => nmA vs
  | _ => []
def nmA : Array Value → List Nat
  | ⟨l⟩ => nmL l
def nmL : List Value → List Nat
  | [] => []
  | v :: l => nm v ++ nmL l
end
mutual
theorem ren_rn (ρ σ : Nat → Nat) : ∀ v, ren ρ (rn σ v) = ren (ρ ∘ σ) v
  | .pointer none => rfl
  | .pointer (some a) => rfl
  | .slice none _ _ => rfl
  | .slice (some ⟨b, o, none⟩) n c => rfl
  | .slice (some ⟨b, o, some k⟩) n c => rfl
  | .iface t v => by simp only [rn, ren, ren_rn ρ σ v]
  | .func fn f c => by simp only [rn, ren, renA_rn ρ σ f, renA_rn ρ σ c]
  | .agg cs => by simp only [rn, ren, renA_rn ρ σ cs]
  | .tuple vs => by simp only [rn, ren, renA_rn ρ σ vs]
  | .bool _ | .int _ _ | .float _ _ | .complex _ _ _ | .string _ | .map _ | .chan _ | .nilFunc | .nilIface => rfl
theorem renA_rn (ρ σ : Nat → Nat) : ∀ a, renA ρ (rnA σ a) = renA (ρ ∘ σ) a
  | ⟨l⟩ => by simp only [rnA, renA, renL_rn ρ σ l]
theorem renL_rn (ρ σ : Nat → Nat) : ∀ l, renL ρ (rnL σ l) = renL (ρ ∘ σ) l
  | [] => rfl
  | v :: l => by simp only [rnL, renL, ren_rn ρ σ v, renL_rn ρ σ l]
end
mutual
theorem ren_congr {ρ ρ' : Nat → Nat} : ∀ v, (∀ k ∈ nm v, ρ' k = ρ k) → ren ρ' v = ren ρ v
  | .pointer none, _ => rfl
  | .pointer (some a), h => by simp only [ren, renAddr, h a.block (by simp [nm])]
  | .slice none _ _, _ => rfl
  | .slice (some ⟨b, o, none⟩) n c, h => by simp only [ren, h b (by simp [nm])]
  | .slice (some ⟨b, o, some k⟩) n c, h => by simp only [ren, h b (by simp [nm]), h k (by simp [nm])]
  | .iface t v, h => by
    simp only [nm] at h
    simp only [ren, ren_congr v h]
  | .func fn f c, h => by
    simp only [nm, List.mem_append] at h
    simp only [ren, renA_congr f (fun k hk => h k (.inl hk)), renA_congr c (fun k hk => h k (.inr hk))]
  | .agg cs, h => by simp only [ren, renA_congr cs h]
  | .tuple vs, h => by simp only [ren, renA_congr vs h]
  | .bool _, _ | .int _ _, _ | .float _ _, _ | .complex _ _ _, _ | .string _, _ | .map _, _ | .chan _, _ | .nilFunc, _ | .nilIface, _ => rfl
theorem renA_congr {ρ ρ' : Nat → Nat} : ∀ a, (∀ k ∈ nmA a, ρ' k = ρ k) → renA ρ' a = renA ρ a
  | ⟨l⟩, h => by simp only [renA, renL_congr l h]
theorem renL_congr {ρ ρ' : Nat → Nat} : ∀ l, (∀ k ∈ nmL l, ρ' k = ρ k) → renL ρ' l = renL ρ l
  | [], _ => rfl
  | v :: l, h => by
    simp only [nmL, List.mem_append] at h
    simp only [renL, ren_congr v (fun k hk => h k (.inl hk)), renL_congr l (fun k hk => h k (.inr hk))]
end
def mapN (σ : Nat → Nat) : List Nat → List Nat
  | [] => []
  | n :: r => σ n :: mapN σ r
theorem mapN_eq (σ : Nat → Nat) : ∀ l, mapN σ l = l.map σ
  | [] => rfl
  | n :: r => by simp only [mapN, List.map_cons, mapN_eq σ r]
theorem nthR_map (ρ σ : Nat → Nat) : ∀ (l : List Nat) (i : Nat), nthR ρ (mapN σ l) i = nthR (ρ ∘ σ) l i
  | [], _ => rfl
  | _ :: _, 0 => rfl
  | _ :: r, i + 1 => nthR_map ρ σ r i
theorem nthR_congr {ρ ρ' : Nat → Nat} : ∀ (l : List Nat) (i : Nat), (∀ k ∈ l, ρ' k = ρ k) → nthR ρ' l i = nthR ρ l i
  | [], _, _ => rfl
  | n :: _, 0, h => h n List.mem_cons_self
  | _ :: r, i + 1, h => nthR_congr r i fun k hk => h k (List.mem_cons_of_mem _ hk)
def Blk.rn (σ : Nat → Nat) : Blk → Blk
  | .cells cs ty => .cells (rnL σ cs) ty
  | .own b c => .own (b.rn σ) (σ c)
  | .opt ns f h => .opt (mapN σ ns) f h
  | b => b
theorem Blk.rn_pres (σ : Nat → Nat) (b : Blk) : (b.rn σ).pres = b.pres := by cases b <;> rfl
def Blk.nm : Blk → List Nat
  | .cells cs _ => nmL cs
  | .own b c => c :: b.nm
  | .opt ns _ _ => ns
  | _ => []
theorem rnL_map (σ : Nat → Nat) : ∀ l, rnL σ l = l.map (rn σ)
  | [] => rfl
  | v :: l => by simp only [rnL, List.map_cons, rnL_map σ l]
theorem Blk.rn_isV (σ : Nat → Nat) (b : Blk) : (b.rn σ).isV = b.isV := by cases b <;> rfl
theorem Blk.rn_esz (σ : Nat → Nat) (b : Blk) : (b.rn σ).esz = b.esz := by cases b <;> rfl
theorem Blk.rn_len (σ : Nat → Nat) (b : Blk) : (b.rn σ).len = b.len := by cases b <;> rfl
theorem Blk.sat_rn {ρ σ : Nat → Nat} {b : Blk} {o : Obj} : (b.rn σ).sat ρ o ↔ b.sat (ρ ∘ σ) o := by
  induction b generalizing o with
  | cells cs ty =>
    simp only [Blk.rn, Blk.sat]
    have : (rnL σ cs).map (ren ρ) = cs.map (ren (ρ ∘ σ)) := by
      rw [rnL_map, List.map_map]
      congr 1
      funext v
      exact ren_rn ρ σ v
    rw [this]
  | own b c ih =>
    simp only [Blk.rn, Blk.sat, ih, Blk.rn_esz, Blk.rn_len, Function.comp]
  | opt ns f h =>
    simp only [Blk.rn, Blk.sat, show nthR ρ (mapN σ ns) = nthR (ρ ∘ σ) ns from funext (nthR_map ρ σ ns)]
  | _ => exact Iff.rfl
theorem Blk.sat_congr {ρ ρ' : Nat → Nat} {b : Blk} {o : Obj} (h : ∀ k ∈ b.nm, ρ' k = ρ k) (hs : b.sat ρ o) : b.sat ρ' o := by
  induction b generalizing o with
  | cells cs ty =>
    simp only [Blk.sat] at hs ⊢
    have := renL_congr (ρ := ρ) (ρ' := ρ') cs h
    rw [renL_map, renL_map] at this
    rw [this]
    exact hs
  | own b c ih =>
    simp only [Blk.nm, List.mem_cons, forall_eq_or_imp] at h
    simp only [Blk.sat, h.1] at hs ⊢
    exact ⟨ih h.2 hs.1, hs.2⟩
  | opt ns f h' =>
    have e : nthR ρ' ns = nthR ρ ns := funext fun i => nthR_congr ns i h
    simp only [Blk.sat, e]
    exact hs
  | _ => exact hs

/-! ### A frame whose names are told anew -/
def idx (n : Nat) : List Nat → Nat → Nat
  | [], _ => 0
  | m :: r, j => bif Nat.beq m n then j else idx n r (j + 1)
theorem idx_get {n : Nat} : ∀ {l : List Nat} {j : Nat}, n ∈ l → ∃ i, idx n l j = j + i ∧ l[i]? = some n
  | [], _, h => by simp at h
  | m :: r, j, h => by
    simp only [idx]
    cases hm : Nat.beq m n
    · simp only [cond_false]
      rcases List.mem_cons.1 h with rfl | h
      · exact absurd rfl (bne_nat hm)
      · obtain ⟨i, h1, h2⟩ := idx_get (l := r) (j := j + 1) h
        exact ⟨i + 1, by rw [h1]; omega, by simpa using h2⟩
    · simp only [cond_true]
      exact ⟨0, rfl, by simp [beq_nat hm]⟩
def allHas (ns : List Nat) : List Nat → Bool
  | [] => true
  | n :: r => bif has n ns then allHas ns r else false
theorem allHas_mem {ns : List Nat} : ∀ {l : List Nat}, allHas ns l = true → ∀ n ∈ l, n ∈ ns
  | [], _, n, hn => by simp at hn
  | m :: r, h, n, hn => by
    simp only [allHas] at h
    cases hm : has m ns
    · simp only [hm, cond_false, Bool.false_eq_true] at h
    · simp only [hm, cond_true] at h
      rcases List.mem_cons.1 hn with rfl | hn
      · exact has_iff.1 hm
      · exact allHas_mem h n hn
def nodupB : List Nat → Bool
  | [] => true
  | n :: r => bif has n r then false else nodupB r
theorem nodupB_get {l : List Nat} (h : nodupB l = true) {i j n : Nat} (hi : l[i]? = some n) (hj : l[j]? = some n) : i = j := by
  induction l generalizing i j with
  | nil => simp at hi
  | cons m r ih =>
    simp only [nodupB] at h
    cases hm : has m r
    · simp only [hm, cond_false] at h
      have hnot : m ∉ r := fun hx => by rw [has_iff.2 hx] at hm; cases hm
      cases i with
      | zero =>
        cases j with
        | zero => rfl
        | succ j =>
          simp only [List.getElem?_cons_zero, Option.some.injEq, List.getElem?_cons_succ] at hi hj
          subst hi
          exact absurd (List.mem_of_getElem? hj) hnot
      | succ i =>
        cases j with
        | zero =>
          simp only [List.getElem?_cons_zero, Option.some.injEq, List.getElem?_cons_succ] at hi hj
          subst hj
          exact absurd (List.mem_of_getElem? hi) hnot
        | succ j =>
          simp only [List.getElem?_cons_succ] at hi hj
          rw [ih h hi hj]
    · simp only [hm, cond_true, Bool.false_eq_true] at h

def relB (hp : Hp) (ns : List Nat) : List Nat → Nat → Option (List (Nat × Blk))
  | [], _ => some []
  | n :: r, j => match relB hp ns r (j + 1) with
    | none => none
    | some l => match hp.get n with
      | none => some l
      | some b => bif allHas ns b.nm then some ((j, b.rn fun k => idx k ns 0) :: l) else none
def relT (ns live : List Nat) : List Value → Nat → Option (List Value)
  | [], _ => some []
  | v :: r, t => match relT ns live r (t + 1) with
    | none => none
    | some l => bif has t live then (bif allHas ns (nm v) then some (rn (fun k => idx k ns 0) v :: l) else none) else some (.string ⟨#[]⟩ :: l)
/-- The frame of which the temporaries 'live' are known, the block ns[j] by the name j. -/
def relab (ns live : List Nat) (m0 : Nat) (ds : List Dec) (G : Fr) : Option Fr :=
  bif nodupB ns then
    match relT ns live G.tm 0, relB G.hp ns ns 0 with
    | some tm, some bs => some ⟨tm, ⟨bs, ns.length, below m0 G.hp.log⟩, ds, []⟩
    | _, _ => none
  else none

theorem relB_some {hp : Hp} {ns : List Nat} : ∀ {l : List Nat} {j : Nat} {bs : List (Nat × Blk)}, relB hp ns l j = some bs → ∀ k b, lookB k bs = some b →
    ∃ i n b0, l[i]? = some n ∧ k = j + i ∧ hp.get n = some b0 ∧ b = b0.rn (fun k => idx k ns 0) ∧ ∀ x ∈ b0.nm, x ∈ ns
  | [], j, bs, h, k, b, hb => by
    simp only [relB, Option.some.injEq] at h
    subst h
    simp [lookB] at hb
  | n :: r, j, bs, h, k, b, hb => by
    simp only [relB] at h
    split at h
    · cases h
    · rename_i l hl
      have ih := relB_some (l := r) (j := j + 1) hl k b
      have ih' : lookB k l = some b → ∃ i n' b0, (n :: r)[i]? = some n' ∧ k = j + i ∧ hp.get n' = some b0 ∧ b = b0.rn (fun k => idx k ns 0) ∧ ∀ x ∈ b0.nm, x ∈ ns := fun q => by
        obtain ⟨i, n', b0, h1, h2, h3⟩ := ih q
        exact ⟨i + 1, n', b0, by simpa using h1, by omega, h3⟩
      split at h
      · simp only [Option.some.injEq] at h
        subst h
        exact ih' hb
      · rename_i b0 hg
        cases ha : allHas ns b0.nm
        · simp only [ha, cond_false, reduceCtorEq] at h
        · simp only [ha, cond_true, Option.some.injEq] at h
          subst h
          simp only [lookB] at hb
          cases hk : Nat.beq j k
          · simp only [hk, cond_false] at hb
            exact ih' hb
          · simp only [hk, cond_true, Option.some.injEq] at hb
            exact ⟨0, n, b0, rfl, (beq_nat hk).symm, hg, hb.symm, allHas_mem ha⟩
theorem relT_some {ns live : List Nat} : ∀ {l : List Value} {t : Nat} {tm : List Value}, relT ns live l t = some tm → tm.length = l.length ∧ ∀ k, k < l.length → isDead (tm.getD k undef) = true ∨ (tm.getD k undef = rn (fun k => idx k ns 0) (l.getD k undef) ∧ ∀ x ∈ nm (l.getD k undef), x ∈ ns)
  | [], t, tm, h => by
    simp only [relT, Option.some.injEq] at h
    subst h
    exact ⟨rfl, fun k hk => by simp at hk⟩
  | v :: r, t, tm, h => by
    simp only [relT] at h
    split at h
    · cases h
    · rename_i l hl
      obtain ⟨ih1, ih2⟩ := relT_some hl
      have step : ∀ u, (isDead u = true ∨ (u = rn (fun k => idx k ns 0) v ∧ ∀ x ∈ nm v, x ∈ ns)) → (u :: l).length = (v :: r).length ∧ ∀ k, k < (v :: r).length → isDead ((u :: l).getD k undef) = true ∨ ((u :: l).getD k undef = rn (fun k => idx k ns 0) ((v :: r).getD k undef) ∧ ∀ x ∈ nm ((v :: r).getD k undef), x ∈ ns) := fun u hu => by
        refine ⟨by simp [ih1], fun k hk => ?_⟩
        cases k with
        | zero => exact hu
        | succ k => exact ih2 k (by simpa using hk)
      cases ht : has t live
      · simp only [ht, cond_false, Option.some.injEq] at h
        subst h
        exact step _ (.inl rfl)
      · simp only [ht, cond_true] at h
        cases ha : allHas ns (nm v)
        · simp only [ha, cond_false, reduceCtorEq] at h
        · simp only [ha, cond_true, Option.some.injEq] at h
          subst h
          exact step _ (.inr ⟨rfl, allHas_mem ha⟩)

theorem relab_ok {ns live : List Nat} {m0 : Nat} {ds : List Dec} {G F : Fr} (h : relab ns live m0 ds G = some F) {S : Nat → Prop} {ρ : Nat → Nat} {a : Act} {w : World} (hf : FrR S ρ G.tm G.hp a w) :
    F.hp.next = ns.length ∧ FrR (fun k => k < F.hp.next) (fun k => ρ (ns.getD k 0)) F.tm F.hp a w ∧ FR ρ (fun k => ρ (ns.getD k 0)) G.hp F.hp w w := by
  unfold relab at h
  cases hd : nodupB ns
  · simp only [hd, cond_false, reduceCtorEq] at h
  · simp only [hd, cond_true] at h
    split at h
    · rename_i tm bs ht hb
      simp only [Option.some.injEq] at h
      subst h
      obtain ⟨hlen, htm⟩ := relT_some ht
      have hinv : ∀ x ∈ ns, idx x ns 0 < ns.length ∧ ns.getD (idx x ns 0) 0 = x := fun x hx => by
        obtain ⟨i, h1, h2⟩ := idx_get (j := 0) hx
        rw [h1, Nat.zero_add]
        exact ⟨(List.getElem?_eq_some_iff.1 h2).1, by simp [h2]⟩
      have hB : ∀ k b, lookB k bs = some b → ∃ n b0, ns[k]? = some n ∧ G.hp.get n = some b0 ∧ b = b0.rn (fun k => idx k ns 0) ∧ ∀ x ∈ b0.nm, x ∈ ns := fun k b hk => by
        obtain ⟨i, n, b0, h1, h2, h3⟩ := relB_some hb k b hk
        rw [Nat.zero_add] at h2
        subst h2
        exact ⟨n, b0, h1, h3⟩
      have hrho : ∀ k n, ns[k]? = some n → ρ (ns.getD k 0) = ρ n := fun k n hk => by simp [hk]
      refine ⟨rfl, ⟨by rw [hlen]; exact hf.size, fun t => ?_, ⟨fun ρ' ha k b hk hbp => ?_, fun k b hk => ?_, fun k m b c hk hm hbp hcp he => ?_⟩, hf.defers⟩, ⟨rfl, rfl, rfl, Nat.le_refl _, fun _ _ _ => rfl, fun k b hk hbp => ?_⟩⟩
      · by_cases hlt : t < G.tm.length
        · rcases htm t hlt with h1 | ⟨h1, h2⟩
          · exact .inl h1
          · rcases hf.tmp t with h3 | h3
            · refine .inl ?_
              rw [h1]
              cases hv : G.tm.getD t undef with
              | string s => rfl
              | _ => rw [hv] at h3; cases h3
            · refine .inr fun ρ' ha => ?_
              rw [h1, ren_rn, h3.self]
              refine (ren_congr _ fun k hk => ?_).symm
              obtain ⟨q1, q2⟩ := hinv k (h2 k hk)
              show ρ' (idx k ns 0) = ρ k
              rw [ha _ q1]
              show ρ (ns.getD (idx k ns 0) 0) = ρ k
              rw [q2]
        · have e1 : tm.getD t undef = undef := by rw [List.getD_eq_getElem?_getD, List.getElem?_eq_none (by omega)]; rfl
          have e2 : a.tmps.getD t undef = undef := by rw [Array.getD_eq_getD_getElem?, Array.getElem?_eq_none (by have := hf.size; omega)]; rfl
          show VRd _ _ (tm.getD t undef) (a.tmps.getD t undef)
          rw [e1, e2]
          exact .inr fun _ _ => rfl
      · obtain ⟨n, b0, h1, h2, rfl, h4⟩ := hB k b hk
        rw [Blk.rn_pres] at hbp
        obtain ⟨o, ho, hs⟩ := hf.heap.sat ρ (Ag.refl _ _) n b0 h2 hbp
        refine ⟨o, by rw [hrho k n h1]; exact ho, Blk.sat_rn.2 (Blk.sat_congr (fun x hx => ?_) hs)⟩
        obtain ⟨q1, q2⟩ := hinv x (h4 x hx)
        show ρ' (idx x ns 0) = ρ x
        rw [ha _ q1]
        show ρ (ns.getD (idx x ns 0) 0) = ρ x
        rw [q2]
      · obtain ⟨n, b0, h1, _⟩ := hB k b hk
        exact (List.getElem?_eq_some_iff.1 h1).1
      · obtain ⟨n, b0, h1, h2, rfl, _⟩ := hB k b hk
        obtain ⟨n', b0', h1', h2', rfl, _⟩ := hB m c hm
        rw [hrho k n h1, hrho m n' h1'] at he
        rw [Blk.rn_isV, Blk.rn_isV]
        rw [Blk.rn_pres] at hbp hcp
        rcases hf.heap.inj n n' b0 b0' h2 h2' hbp hcp he with h | h
        · subst h
          exact .inl (nodupB_get hd h1 h1')
        · exact .inr h
      · obtain ⟨n, b0, h1, h2, rfl, _⟩ := hB k b hk
        exact .inl ⟨n, b0, h2, by rw [← hbp, Blk.rn_pres], (Blk.rn_isV _ _).symm, hrho k n h1⟩
    · cases h
end Go.Proofs.YtocfhiafegkfkaaGreat.Ev
namespace Go.Proofs.YtocfhiafegkfkaaGreat.Ev
open Go Go.RowKit

/-- Code that is begun in a frame ends in one of those that Fin lets in; the names below m0 stay what they are. -/
def CodeC (E : Env) (m0 : Nat) (c : Code) (fr : Fr) (Fin : Ex → Fr → Prop) : Prop :=
  ∀ (ρ : Nat → Nat) (a : Act) (w : World) (Q : Exit → Act → World → Prop), FrR (fun k => k < fr.hp.next) ρ fr.tm fr.hp a w →
    (∀ ex fr1 ρ1 a1 w1, Fin ex fr1 → (∀ k, k < m0 → ρ1 k = ρ k) → FrR (fun k => k < fr1.hp.next) ρ1 fr1.tm fr1.hp a1 w1 → FR ρ ρ1 fr.hp fr1.hp w w1 → Q ex.to a1 w1) → c.wp E.P Q a w

section
variable {E : Env} {m0 : Nat}
theorem CodeC.mono {c : Code} {fr : Fr} {Fin Fin' : Ex → Fr → Prop} (h : CodeC E m0 c fr Fin) (hF : ∀ ex fr1, Fin ex fr1 → Fin' ex fr1) : CodeC E m0 c fr Fin' :=
  fun ρ a w Q hf hQ => h ρ a w Q hf fun ex fr1 ρ1 a1 w1 h1 => hQ ex fr1 ρ1 a1 w1 (hF ex fr1 h1)
theorem CodeC.of_ok {c : Code} {fr fr1 : Fr} {ex : Ex} {Fin : Ex → Fr → Prop} (h : CodeOk E c fr ex fr1) (hpc : ∀ p ∈ fr1.pc, p) (hm : m0 ≤ fr.hp.next) (hF : Fin ex fr1) : CodeC E m0 c fr Fin := by
  obtain ⟨k1, _, h1⟩ := h
  refine fun ρ a w Q hf hQ => h1 _ ρ a w Q hf (fun k h1 _ h3 => by omega) hpc fun a1 w1 haft => ?_
  obtain ⟨ρ1, r1, r2, r3⟩ := haft
  exact hQ ex fr1 ρ1 a1 w1 hF (fun k hk => r1 k (by omega)) (r2.up fun k hk => by
    have := k1.le
    rcases hk with hk | hk
    · omega
    · exact hk.2) r3
theorem CodeC.of_do (hE : EnvOk E) (n : Nat) {c : Code} {fr fr1 : Fr} {ex : Ex} {Fin : Ex → Fr → Prop} (h : doCode E (doCall E n) c fr = some (ex, fr1)) (hpc : ∀ p ∈ fr1.pc, p) (hm : m0 ≤ fr.hp.next) (hF : Fin ex fr1) : CodeC E m0 c fr Fin :=
  CodeC.of_ok (doCode_sound hE.mixed hE.eqs (doCall_ok hE n) c fr ex fr1 h) hpc hm hF
theorem CodeC.move {c : Code} {G F : Fr} {Fin : Ex → Fr → Prop} {ns live : List Nat} {m : Nat} {ds : List Dec} (hC : CodeC E m0 c F Fin) (h : relab ns live m ds G = some F) (hns : ∀ k, k < m0 → ns.getD k 0 = k) : CodeC E m0 c G Fin := by
  intro ρ a w Q hf hQ
  obtain ⟨_, h2, h3⟩ := relab_ok h hf
  exact hC _ a w Q h2 fun ex fr1 ρ1 a1 w1 hF hm hf1 hfr => hQ ex fr1 ρ1 a1 w1 hF (fun k hk => by rw [hm k hk, hns k hk]) hf1 (h3.trans hfr)
theorem CodeC.seq {x y : Code} {fr : Fr} {Mid Fin : Ex → Fr → Prop} (hx : CodeC E m0 x fr Mid) (hy : ∀ fr1, Mid .normal fr1 → CodeC E m0 y fr1 Fin) (he : ∀ ex fr1, ex ≠ .normal → Mid ex fr1 → Fin ex fr1) : CodeC E m0 (.seq x y) fr Fin := by
  refine fun ρ a w Q hf hQ => wp_seq (hx ρ a w _ hf fun ex fr1 ρ1 a1 w1 hM hm hf1 hfr => ?_)
  by_cases hex : ex = .normal
  · subst hex
    exact hy fr1 hM ρ1 a1 w1 Q hf1 fun ex2 fr2 ρ2 a2 w2 hF hm2 hf2 hfr2 => hQ ex2 fr2 ρ2 a2 w2 hF (fun k hk => (hm2 k hk).trans (hm k hk)) hf2 (hfr.trans hfr2)
  · rw [early_to hex]
    exact hQ ex fr1 ρ1 a1 w1 (he ex fr1 hex hM) hm hf1 hfr
theorem CodeC.block {id : Nat} {c : Code} {fr : Fr} {Mid Fin : Ex → Fr → Prop} (hc : CodeC E m0 c fr Mid) (h1 : ∀ fr1, Mid (.exit id) fr1 → Fin .normal fr1) (h2 : ∀ ex fr1, ex ≠ .exit id → Mid ex fr1 → Fin ex fr1) : CodeC E m0 (.block id c) fr Fin := by
  refine fun ρ a w Q hf hQ => wp_block (hc ρ a w _ hf fun ex fr1 ρ1 a1 w1 hM hm hf1 hfr => ?_)
  cases ex with
  | normal => exact hQ .normal fr1 ρ1 a1 w1 (h2 _ _ (by simp) hM) hm hf1 hfr
  | ret => exact hQ .ret fr1 ρ1 a1 w1 (h2 _ _ (by simp) hM) hm hf1 hfr
  | exit j =>
    show if j = id then _ else _
    split
    · rename_i e
      subst e
      exact hQ .normal fr1 ρ1 a1 w1 (h1 _ hM) hm hf1 hfr
    · rename_i e
      exact hQ (.exit j) fr1 ρ1 a1 w1 (h2 _ _ (by simpa using e) hM) hm hf1 hfr
theorem CodeC.cond {t : Nat} {x y : Code} {fr : Fr} {b : Bool} {Fin : Ex → Fr → Prop} (ht : fr.tm.getD t undef = .bool b) (hx : b = true → CodeC E m0 x fr Fin) (hy : b = false → CodeC E m0 y fr Fin) : CodeC E m0 (.cond (.tmp t) x y) fr Fin := by
  intro ρ a w Q hf hQ
  have hev : a.eval (.tmp t) = .bool b := by
    have := hf.tmp t
    rw [ht] at this
    exact this.bool
  exact wp_cond_split hev (fun h => hx h ρ a w Q hf hQ) (fun h => hy h ρ a w Q hf hQ)

/-- A round's end: the frame comes again, further on; or the loop is left. -/
def Again {ι : Type} (m0 : Nat) (F : ι → Fr) (I : ι → Prop) (μ : ι → Nat) (i : ι) (Fin : Ex → Fr → Prop) (ex : Ex) (fr1 : Fr) : Prop :=
  (ex = .normal ∧ ∃ j ns live m ds, relab ns live m ds fr1 = some (F j) ∧ (∀ k, k < m0 → ns.getD k 0 = k) ∧ I j ∧ μ j < μ i) ∨ (ex ≠ .normal ∧ Fin ex fr1)
theorem CodeC.loop {ι : Type} {c : Code} (F : ι → Fr) (I : ι → Prop) (μ : ι → Nat) (Fin : Ex → Fr → Prop) (step : ∀ i, I i → CodeC E m0 c (F i) (Again m0 F I μ i Fin)) : ∀ i, I i → CodeC E m0 (.loop c) (F i) Fin := by
  have key : ∀ (n : Nat) (i : ι), μ i < n → I i → ∀ (ρ : Nat → Nat) (a : Act) (w : World) (Q : Exit → Act → World → Prop), FrR (fun k => k < (F i).hp.next) ρ (F i).tm (F i).hp a w →
      (∀ ex fr1 ρ1 a1 w1, Fin ex fr1 → (∀ k, k < m0 → ρ1 k = ρ k) → FrR (fun k => k < fr1.hp.next) ρ1 fr1.tm fr1.hp a1 w1 → FR ρ ρ1 (F i).hp fr1.hp w w1 → Q ex.to a1 w1) → Code.rounds E.P c Q n a w := by
    intro n
    induction n with
    | zero => intro i h; omega
    | succ n ih =>
      intro i hi hI ρ a w Q hf hQ
      show c.wp E.P _ a w
      refine step i hI ρ a w _ hf fun ex fr1 ρ1 a1 w1 hA hm hf1 hfr => ?_
      rcases hA with ⟨rfl, j, ns, live, m, ds, hr, hns, hj, hμ⟩ | ⟨hex, hF⟩
      · obtain ⟨_, h2, h3⟩ := relab_ok hr hf1
        refine ih j (by omega) hj _ a1 w1 Q h2 fun ex2 fr2 ρ2 a2 w2 hF2 hm2 hf2 hfr2 => hQ ex2 fr2 ρ2 a2 w2 hF2 (fun k hk => ?_) hf2 ((hfr.trans h3).trans hfr2)
        rw [hm2 k hk, hns k hk, hm k hk]
      · rw [early_to hex]
        exact hQ ex fr1 ρ1 a1 w1 hF hm hf1 hfr
  exact fun i hI ρ a w Q hf hQ => wp_loop_rounds (μ i + 1) (key (μ i + 1) i (Nat.lt_succ_self _) hI ρ a w Q hf hQ)

/-! ### Calls -/
/-- What a call comes to, of arguments and a heap by their own names. -/
def CallC (P : Program) (f : FuncId) (args : List Value) (hp : Hp) (v : Value) (hp1 : Hp) : Prop :=
  Enters P f ∧ ∀ ρ w cargs, VRL (fun k => k < hp.next) ρ args cargs → HR (fun k => k < hp.next) ρ hp w →
    Calls P f ⟨cargs⟩ w fun e w1 => ∃ u ρ1, e = .returned u ∧ (∀ k, k < hp.next → ρ1 k = ρ k) ∧ HR (fun k => k < hp1.next) ρ1 hp1 w1 ∧ VR (fun k => k < hp1.next) ρ1 v u ∧ FR ρ ρ1 hp hp1 w w1
/-- A function's end: what it hands back, and what it leaves, under the names that are wanted. -/
def Ends (E : Env) (fn : Func) (m0 : Nat) (v : Value) (hp1 : Hp) (ex : Ex) (fr1 : Fr) : Prop :=
  (∀ id, ex ≠ .exit id) ∧ ∃ vs pc ns m, resV E fr1.tm fr1.hp fn.results.toList = some (vs, pc) ∧ (∀ p ∈ pc, p) ∧ relab ns [0] m [] ⟨[oneV vs], fr1.hp, [], []⟩ = some ⟨[v], hp1, [], []⟩ ∧ isDead v = false ∧ (∀ k, k < m0 → ns.getD k 0 = k)
theorem CallC.of_code {f : FuncId} {fn : Func} {c : Code} {args : List Value} {hp hp1 : Hp} {v : Value} {ds : List Dec} (hfn : E.P.funcs[f]? = some fn) (hname : (fn.name == "runtime.NumGoroutine") = false) (hb : fn.body = some c)
    (h : CodeC E hp.next c ⟨args ++ List.replicate (fn.ntmps - args.length) undef, hp, ds, []⟩ (Ends E fn hp.next v hp1)) : CallC E.P f args hp v hp1 := by
  have hent : Enters E.P f := fun args w => by
    have hne : ¬ fn.name = "runtime.NumGoroutine" := by simpa using hname
    simp [callFunc, go_sem, hfn, hne, hb]
  refine ⟨hent, fun ρ w cargs hargs hH => calls_of_wp hfn hb (h ρ _ w _ ⟨?_, fun t => ?_, hH, rfl⟩ fun ex fr1 ρ1 a1 w1 hF hm hf1 hfr => ?_)⟩
  · have := congrArg List.length hargs.self
    simp at this
    simp [this]
  · have hlen := congrArg List.length hargs.self
    simp at hlen
    have : VRL (fun k => k < hp.next) ρ (args ++ List.replicate (fn.ntmps - args.length) undef) (cargs ++ List.replicate (fn.ntmps - cargs.length) undef) := fun ρ' ha => by
      rw [List.map_append, ← hargs ρ' ha, hlen]
      simp [ren_undef]
    have := this.get t
    have e : (((⟨cargs⟩ : Array Value) ++ Array.replicate (fn.ntmps - (⟨cargs⟩ : Array Value).size) undef).getD t undef) = (cargs ++ List.replicate (fn.ntmps - cargs.length) undef).getD t undef := by
      rw [Array.getD_eq_getD_getElem?, List.getD_eq_getElem?_getD, ← Array.getElem?_toList]
      simp
    rw [e]
    exact .inr this
  · obtain ⟨hex, vs, pc, ns, m, hr, hpc, hrel, hv, hns⟩ := hF
    obtain ⟨u, hu, hvu⟩ := results_sound hf1 hr hpc
    obtain ⟨_, h2, h3⟩ := relab_ok hrel (S := fun k => k < fr1.hp.next) (ρ := ρ1) (a := ⟨#[u], []⟩) (w := w1) ⟨rfl, fun t => by
      cases t with
      | zero => exact .inr hvu
      | succ t => exact .inr fun _ _ => rfl, hf1.heap, rfl⟩
    have hv1 : VR (fun k => k < hp1.next) (fun k => ρ1 (ns.getD k 0)) v u := by
      rcases h2.tmp 0 with h | h
      · rw [show ([v] : List Value).getD 0 undef = v from rfl, hv] at h; cases h
      · exact h
    have hres : ∃ u' ρ', Ending.returned u = .returned u' ∧ (∀ k, k < hp.next → ρ' k = ρ k) ∧ HR (fun k => k < hp1.next) ρ' hp1 w1 ∧ VR (fun k => k < hp1.next) ρ' v u' ∧ FR ρ ρ' hp hp1 w w1 :=
      ⟨u, _, rfl, fun k hk => by rw [hns k hk, hm k hk], h2.heap, hv1, hfr.trans h3⟩
    cases ex with
    | normal => exact ⟨hf1.defers, u, hu, hres⟩
    | ret => exact ⟨hf1.defers, u, hu, hres⟩
    | exit id => exact absurd rfl (hex id)
end
end Go.Proofs.YtocfhiafegkfkaaGreat.Ev
namespace Go.Proofs.YtocfhiafegkfkaaGreat.Ev
open Go Go.RowKit

mutual
theorem ren_inj {ρ ρ' : Nat → Nat} : ∀ v, ren ρ' v = ren ρ v → ∀ k ∈ nm v, ρ' k = ρ k
  | .pointer none, _, k, hk => by simp [nm] at hk
  | .pointer (some a), h, k, hk => by
    simp only [nm, List.mem_singleton] at hk
    simp only [ren, renAddr] at h
    injection h with h; injection h with h; injection h with h
    rw [hk, h]
  | .slice none _ _, _, k, hk => by simp [nm] at hk
  | .slice (some ⟨b, o, none⟩) n c, h, k, hk => by
    simp only [nm, List.mem_singleton] at hk
    simp only [ren] at h
    injection h with h _ _; injection h with h; injection h with h
    rw [hk, h]
  | .slice (some ⟨b, o, some k'⟩) n c, h, k, hk => by
    simp only [nm, List.mem_cons, List.not_mem_nil, or_false] at hk
    simp only [ren] at h
    injection h with h _ h2; injection h with h; injection h with h
    rcases hk with rfl | rfl
    · exact h
    · exact Nat.add_right_cancel h2
  | .iface t v, h, k, hk => by
    simp only [nm] at hk
    simp only [ren] at h
    injection h with _ h
    exact ren_inj v h k hk
  | .func fn f c, h, k, hk => by
    simp only [nm, List.mem_append] at hk
    simp only [ren] at h
    injection h with _ h1 h2
    rcases hk with hk | hk
    · exact renA_inj f h1 k hk
    · exact renA_inj c h2 k hk
  | .agg cs, h, k, hk => by
    simp only [nm] at hk
    simp only [ren] at h
    injection h with h
    exact renA_inj cs h k hk
  | .tuple cs, h, k, hk => by
    simp only [nm] at hk
    simp only [ren] at h
    injection h with h
    exact renA_inj cs h k hk
  | .bool _, _, k, hk | .int _ _, _, k, hk | .float _ _, _, k, hk | .complex _ _ _, _, k, hk | .string _, _, k, hk | .map _, _, k, hk | .chan _, _, k, hk | .nilFunc, _, k, hk | .nilIface, _, k, hk => by simp [nm] at hk
theorem renA_inj {ρ ρ' : Nat → Nat} : ∀ a, renA ρ' a = renA ρ a → ∀ k ∈ nmA a, ρ' k = ρ k
  | ⟨l⟩, h, k, hk => by
    simp only [renA] at h
    injection h with h
    exact renL_inj l h k hk
theorem renL_inj {ρ ρ' : Nat → Nat} : ∀ l, renL ρ' l = renL ρ l → ∀ k ∈ nmL l, ρ' k = ρ k
  | [], _, k, hk => by simp [nmL] at hk
  | v :: l, h, k, hk => by
    simp only [nmL, List.mem_append] at hk
    simp only [renL] at h
    injection h with h1 h2
    rcases hk with hk | hk
    · exact ren_inj v h1 k hk
    · exact renL_inj l h2 k hk
end

/-- A value that is told names only what is told. -/
theorem upd_ag {S : Nat → Prop} {ρ : Nat → Nat} {k x : Nat} (hk : ¬ S k) : Ag S ρ (fun j => if j = k then x else ρ j) := fun j hj => if_neg (fun (e : j = k) => hk (e ▸ hj))
theorem VRL.told {S : Nat → Prop} {ρ : Nat → Nat} {l u : List Value} (h : VRL S ρ l u) : ∀ k ∈ nmL l, S k := fun k hk => Classical.byContradiction fun hS => by
  have h1 := h _ (upd_ag (x := 0) hS)
  have h2 := h _ (upd_ag (x := 1) hS)
  rw [h1] at h2
  simp only [← renL_map] at h2
  have := renL_inj l h2 k hk
  simp at this
def Blk.isO : Blk → Bool
  | .opt _ _ _ => true
  | .own b _ => b.isO
  | _ => false
theorem Blk.pres_isO {b : Blk} (h : b.isO = false) : b.pres = true := by
  cases b with
  | opt ns f h' => cases h
  | _ => rfl
theorem Blk.told {S : Nat → Prop} {ρ : Nat → Nat} {b : Blk} {o : Obj} (h : ∀ ρ', Ag S ρ ρ' → b.sat ρ' o) (hO : b.isO = false) : ∀ k ∈ b.nm, S k := by
  induction b generalizing o with
  | opt ns f h' => cases hO
  | cells cs ty =>
    refine fun k hk => Classical.byContradiction fun hS => ?_
    have h1 : o = _ := h _ (upd_ag (x := 0) hS)
    have h2 : o = _ := h _ (upd_ag (x := 1) hS)
    rw [h1] at h2
    injection h2 with h2 _ _
    injection h2 with h2
    simp only [← renL_map] at h2
    have := renL_inj cs h2 k hk
    simp at this
  | own b c ih =>
    intro k hk
    simp only [Blk.nm, List.mem_cons] at hk
    rcases hk with rfl | hk
    · refine Classical.byContradiction fun hS => ?_
      have := (h _ (upd_ag (x := maxLen + 1) hS)).2.2.2
      simp at this
      exact absurd this (Nat.not_succ_le_self _)
    · exact ih (fun ρ' ha => (h ρ' ha).1) hO k hk
  | _ => intro k hk; simp [Blk.nm] at hk

def ext (L : List Nat) (m0 nx k : Nat) : Nat := bif Nat.blt k m0 then L.getD k 0 else nx + (k - m0)
theorem ext_old {L : List Nat} {m0 nx k : Nat} (h : k < m0) : ext L m0 nx k = L.getD k 0 := by
  have : Nat.blt k m0 = true := by simp [Nat.blt]; omega
  simp only [ext, this, cond_true]
theorem ext_new {L : List Nat} {m0 nx k : Nat} (h : m0 ≤ k) : ext L m0 nx k = nx + (k - m0) := by
  have : Nat.blt k m0 = false := by
    cases h' : Nat.blt k m0
    · rfl
    · simp [Nat.blt] at h'; omega
  simp only [ext, this, cond_false]
def layB (σ : Nat → Nat) : List (Nat × Blk) → List (Nat × Blk)
  | [] => []
  | (n, b) :: r => (σ n, b.rn σ) :: layB σ r
/-- A heap into which a part is laid back, of which wr was written to, or made. -/
def Hp.lay (hp : Hp) (L : List Nat) (m0 : Nat) (out : Hp) (wr : List Nat) : Hp :=
  ⟨layB (ext L m0 hp.next) (pick' wr out.blks) ++ delB (mapN (ext L m0 hp.next) wr) hp.blks, hp.next + (out.next - m0), mapN (ext L m0 hp.next) (below m0 wr) ++ hp.log⟩
theorem lookB_lay {σ : Nat → Nat} {n : Nat} {b : Blk} : ∀ {l : List (Nat × Blk)}, lookB n (layB σ l) = some b → ∃ n0 b0, lookB n0 l = some b0 ∧ σ n0 = n ∧ b = b0.rn σ
  | [], h => by simp [layB, lookB] at h
  | (m, c) :: r, h => by
    simp only [layB, lookB] at h
    cases hm : Nat.beq (σ m) n
    · simp only [hm, cond_false] at h
      obtain ⟨n0, b0, h1, h2, h3⟩ := lookB_lay h
      refine ⟨n0, b0, ?_, h2, h3⟩
      simp only [lookB]
      cases hk : Nat.beq m n0
      · exact h1
      · have := beq_nat hk
        subst this
        exact absurd h2 (bne_nat hm)
    · simp only [hm, cond_true, Option.some.injEq] at h
      exact ⟨m, c, by simp [lookB], beq_nat hm, h.symm⟩
theorem lookB_lay_none {σ : Nat → Nat} {n : Nat} : ∀ {l : List (Nat × Blk)}, lookB n (layB σ l) = none → ∀ n0 b0, lookB n0 l = some b0 → σ n0 ≠ n
  | [], _, n0, b0, h => by simp [lookB] at h
  | (m, c) :: r, h, n0, b0, h0 => by
    simp only [layB, lookB] at h
    cases hm : Nat.beq (σ m) n
    · simp only [hm, cond_false] at h
      simp only [lookB] at h0
      cases hk : Nat.beq m n0
      · simp only [hk, cond_false] at h0
        exact lookB_lay_none h n0 b0 h0
      · have := beq_nat hk
        subst this
        exact bne_nat hm
    · simp only [hm, cond_true, reduceCtorEq] at h

/-- Every name below m0 is told by the arguments, or by the heap. -/
def tellers (args : List Value) (hp : Hp) : List Nat := nmL args ++ tellB hp.blks
where tellB : List (Nat × Blk) → List Nat
  | [] => []
  | (n, b) :: r => n :: (b.nm ++ tellB r)
def upTo : Nat → List Nat
  | 0 => []
  | n + 1 => n :: upTo n
theorem mem_upTo {n k : Nat} (h : k < n) : k ∈ upTo n := by
  induction n with
  | zero => omega
  | succ n ih =>
    simp only [upTo, List.mem_cons]
    by_cases e : k = n
    · exact .inl e
    · exact .inr (ih (by omega))
/-- The blocks are the whole's, under their names. -/
def laysIn (hp : Hp) (σ : Nat → Nat) : List (Nat × Blk) → Prop
  | [] => True
  | (n, b) :: r => hp.get (σ n) = some (b.rn σ) ∧ laysIn hp σ r
theorem laysIn_get {hp : Hp} {σ : Nat → Nat} : ∀ {l : List (Nat × Blk)}, laysIn hp σ l → ∀ n b, lookB n l = some b → hp.get (σ n) = some (b.rn σ)
  | [], _, n, b, h => by simp [lookB] at h
  | (m, c) :: r, h, n, b, hb => by
    simp only [lookB] at hb
    cases hm : Nat.beq m n
    · simp only [hm, cond_false] at hb
      exact laysIn_get h.2 n b hb
    · simp only [hm, cond_true, Option.some.injEq] at hb
      have := beq_nat hm
      subst this
      subst hb
      exact h.1
/-- What was not written to, nor made, is as it was. -/
def samesIn (hp out : Hp) (wr : List Nat) : List (Nat × Blk) → Prop
  | [] => True
  | (n, _) :: r => (n ∈ wr ∨ out.get n = hp.get n) ∧ samesIn hp out wr r
theorem samesIn_get {hp out : Hp} {wr : List Nat} : ∀ {l : List (Nat × Blk)}, samesIn hp out wr l → ∀ n b, lookB n l = some b → n ∈ wr ∨ out.get n = hp.get n
  | [], _, n, b, h => by simp [lookB] at h
  | (m, c) :: r, h, n, b, hb => by
    simp only [lookB] at hb
    cases hm : Nat.beq m n
    · simp only [hm, cond_false] at hb
      exact samesIn_get h.2 n b hb
    · have := beq_nat hm
      subst this
      exact h.1

theorem tellB_mem {S : Nat → Prop} {k : Nat} : ∀ {l : List (Nat × Blk)}, k ∈ tellers.tellB l → ∃ n b, (n, b) ∈ l ∧ (k = n ∨ k ∈ b.nm)
  | [], h => by simp [tellers.tellB] at h
  | (n, b) :: r, h => by
    simp only [tellers.tellB, List.mem_cons, List.mem_append] at h
    rcases h with rfl | h | h
    · exact ⟨_, b, by simp, .inl rfl⟩
    · exact ⟨n, b, by simp, .inr h⟩
    · obtain ⟨n', b', h1, h2⟩ := tellB_mem (S := S) h
      exact ⟨n', b', by simp [h1], h2⟩
theorem nmL_rn {σ : Nat → Nat} {k : Nat} : ∀ {l : List Value}, k ∈ nmL l → ∃ v ∈ l, k ∈ nm v
  | [], h => by simp [nmL] at h
  | v :: l, h => by
    simp only [nmL, List.mem_append] at h
    rcases h with h | h
    · exact ⟨v, by simp, h⟩
    · obtain ⟨v', h1, h2⟩ := nmL_rn (σ := σ) h
      exact ⟨v', by simp [h1], h2⟩
mutual
theorem nm_rn {σ : Nat → Nat} : ∀ v k, k ∈ nm v → σ k ∈ nm (rn σ v)
  | .pointer none, k, hk => by simp [nm] at hk
  | .pointer (some a), k, hk => by simp only [nm, List.mem_singleton] at hk; simp [rn, nm, hk]
  | .slice none _ _, k, hk => by simp [nm] at hk
  | .slice (some ⟨b, o, none⟩) n c, k, hk => by simp only [nm, List.mem_singleton] at hk; simp [rn, nm, hk]
  | .slice (some ⟨b, o, some k'⟩) n c, k, hk => by
    simp only [nm, List.mem_cons, List.not_mem_nil, or_false] at hk
    rcases hk with rfl | rfl <;> simp [rn, nm]
  | .iface t v, k, hk => by
    simp only [nm] at hk
    simp only [rn, nm]
    exact nm_rn v k hk
  | .func fn f c, k, hk => by
    simp only [nm, List.mem_append] at hk
    simp only [rn, nm, List.mem_append]
    exact hk.imp (nmA_rn f k) (nmA_rn c k)
  | .agg cs, k, hk => by
    simp only [nm] at hk
    simp only [rn, nm]
    exact nmA_rn cs k hk
  | .tuple cs, k, hk => by
    simp only [nm] at hk
    simp only [rn, nm]
    exact nmA_rn cs k hk
  | .bool _, k, hk | .int _ _, k, hk | .float _ _, k, hk | .complex _ _ _, k, hk | .string _, k, hk | .map _, k, hk | .chan _, k, hk | .nilFunc, k, hk | .nilIface, k, hk => by simp [nm] at hk
theorem nmA_rn {σ : Nat → Nat} : ∀ a k, k ∈ nmA a → σ k ∈ nmA (rnA σ a)
  | ⟨l⟩, k, hk => nmL_rn' l k hk
theorem nmL_rn' {σ : Nat → Nat} : ∀ l k, k ∈ nmL l → σ k ∈ nmL (rnL σ l)
  | [], k, hk => by simp [nmL] at hk
  | v :: l, k, hk => by
    simp only [nmL, List.mem_append] at hk
    simp only [rnL, nmL, List.mem_append]
    exact hk.imp (nm_rn v k) (nmL_rn' l k)
end
theorem Blk.nm_rn {σ : Nat → Nat} {b : Blk} {k : Nat} (h : k ∈ b.nm) : σ k ∈ (b.rn σ).nm := by
  induction b with
  | cells cs ty => exact nmL_rn' cs k h
  | own b c ih =>
    simp only [Blk.nm, List.mem_cons] at h
    simp only [Blk.rn, Blk.nm, List.mem_cons]
    rcases h with rfl | h
    · exact .inl rfl
    · exact .inr (ih h)
  | opt ns f h' =>
    simp only [Blk.nm] at h
    simp only [Blk.rn, Blk.nm, mapN_eq]
    exact List.mem_map.2 ⟨k, h, rfl⟩
  | _ => simp [Blk.nm] at h

def keysIn (m0 : Nat) : List (Nat × Blk) → Bool
  | [] => true
  | (n, _) :: r => bif Nat.blt n m0 then (bif has n (keys r) then false else keysIn m0 r) else false
theorem keysIn_lt {m0 : Nat} : ∀ {l : List (Nat × Blk)}, keysIn m0 l = true → ∀ n b, (n, b) ∈ l → n < m0 ∧ lookB n l = some b
  | [], _, n, b, h => by simp at h
  | (m, c) :: r, h, n, b, hb => by
    simp only [keysIn] at h
    cases hm : Nat.blt m m0
    · simp only [hm, cond_false, Bool.false_eq_true] at h
    · simp only [hm, cond_true] at h
      cases hk : has m (keys r)
      · simp only [hk, cond_false] at h
        rcases List.mem_cons.1 hb with e | hb
        · injection e with e1 e2
          subst e1; subst e2
          exact ⟨Nat.lt_of_succ_le (by simpa [Nat.blt] using hm), by simp [lookB]⟩
        · obtain ⟨h1, h2⟩ := keysIn_lt h n b hb
          refine ⟨h1, ?_⟩
          simp only [lookB]
          cases hmn : Nat.beq m n
          · exact h2
          · exfalso
            have := beq_nat hmn
            subst this
            have hin : m ∈ keys r := by
              clear h h2 hk
              induction r with
              | nil => simp at hb
              | cons p r ih =>
                obtain ⟨q, d⟩ := p
                simp only [keys, List.mem_cons]
                rcases List.mem_cons.1 hb with e | hb
                · injection e with e1 _; exact .inl e1
                · exact .inr (ih (List.mem_cons_of_mem _ hb) hb)
            rw [has_iff.2 hin] at hk
            cases hk
      · simp only [hk, cond_true, Bool.false_eq_true] at h
theorem lookB_mem {n : Nat} {b : Blk} : ∀ {l : List (Nat × Blk)}, lookB n l = some b → (n, b) ∈ l
  | [], h => by simp [lookB] at h
  | (m, c) :: r, h => by
    simp only [lookB] at h
    cases hm : Nat.beq m n
    · simp only [hm, cond_false] at h
      exact List.mem_cons_of_mem _ (lookB_mem h)
    · simp only [hm, cond_true, Option.some.injEq] at h
      have := beq_nat hm
      subst this; subst h
      exact List.mem_cons_self

def allLt (m : Nat) : List Nat → Bool
  | [] => true
  | n :: r => bif Nat.blt n m then allLt m r else false
theorem allLt_mem {m : Nat} : ∀ {l : List Nat}, allLt m l = true → ∀ n ∈ l, n < m
  | [], _, n, h => by simp at h
  | k :: r, h, n, hn => by
    simp only [allLt] at h
    cases hk : Nat.blt k m
    · simp only [hk, cond_false, Bool.false_eq_true] at h
    · simp only [hk, cond_true] at h
      rcases List.mem_cons.1 hn with rfl | hn
      · exact Nat.lt_of_succ_le (by simpa [Nat.blt] using hk)
      · exact allLt_mem h n hn
theorem tellB_blk {n k : Nat} {b : Blk} : ∀ {l : List (Nat × Blk)}, (n, b) ∈ l → k ∈ b.nm → k ∈ tellers.tellB l
  | [], h, _ => by simp at h
  | (m, c) :: r, h, hk => by
    simp only [tellers.tellB, List.mem_cons, List.mem_append]
    rcases List.mem_cons.1 h with e | h
    · injection e with _ e2
      subst e2
      exact .inr (.inl hk)
    · exact .inr (.inr (tellB_blk h hk))

theorem Blk.rn_isO (σ : Nat → Nat) (b : Blk) : (b.rn σ).isO = b.isO := by
  induction b with
  | own b c ih => exact ih
  | _ => rfl
theorem keys_get {k : Nat} : ∀ {l : List (Nat × Blk)}, k ∈ keys l → ∃ b, lookB k l = some b
  | [], h => by simp [keys] at h
  | (m, c) :: r, h => by
    simp only [keys, List.mem_cons] at h
    simp only [lookB]
    cases hm : Nat.beq m k
    · rcases h with rfl | h
      · exact absurd rfl (bne_nat hm)
      · exact keys_get h
    · exact ⟨c, rfl⟩
/-- The names of blocks that are there or not are blocks' names. -/
def optsB (ks : List Nat) : List (Nat × Blk) → Bool
  | [] => true
  | (_, .opt ns _ _) :: r => bif allHas ks ns then optsB ks r else false
  | (_, b) :: r => bif b.isO then false else optsB ks r
theorem optsB_ok {ks : List Nat} : ∀ {l : List (Nat × Blk)}, optsB ks l = true → ∀ n b, (n, b) ∈ l → b.isO = false ∨ ∀ k ∈ b.nm, k ∈ ks
  | [], _, n, b, h => by simp at h
  | (m, c) :: r, h, n, b, hb => by
    cases c with
    | opt ns f h' =>
      simp only [optsB] at h
      cases ha : allHas ks ns
      · simp only [ha, cond_false, Bool.false_eq_true] at h
      · simp only [ha, cond_true] at h
        rcases List.mem_cons.1 hb with e | hb
        · injection e with _ e
          subst e
          exact .inr (allHas_mem ha)
        · exact optsB_ok h n b hb
    | own c' k =>
      simp only [optsB, Blk.isO] at h
      cases ha : c'.isO
      · simp only [ha, cond_false] at h
        rcases List.mem_cons.1 hb with e | hb
        · injection e with _ e
          subst e
          exact .inl ha
        · exact optsB_ok h n b hb
      · simp only [ha, cond_true, Bool.false_eq_true] at h
    | cells _ _ | ints _ _ _ | bools _ _ | recs _ _ _ | view _ _ =>
      simp only [optsB, Blk.isO, cond_false] at h
      rcases List.mem_cons.1 hb with e | hb
      · injection e with _ e
        subst e
        exact .inl rfl
      · exact optsB_ok h n b hb
section
variable {P : Program} {f : FuncId}
/-- A call that is told by its own names, in any heap into which its own one is laid. -/
theorem CallC.lift {args0 : List Value} {hp0 out0 : Hp} {v0 : Value} {pc : List Prop} (hent : Enters P f) (hC : (∀ p ∈ pc, p) → CallC P f args0 hp0 v0 out0) (L wr : List Nat) (hle : hp0.next ≤ out0.next)
    (hkeys : keysIn hp0.next hp0.blks = true) (hbnd : allLt hp0.next (tellers args0 hp0) = true) (htell : allHas (tellers args0 hp0) (upTo hp0.next) = true) (hinj : nodupB L = true) (hL : L.length = hp0.next)
    (hsame : samesIn hp0 out0 wr hp0.blks)
    {hp : Hp} {args : List Value} (hargs : args = rnL (ext L hp0.next hp.next) args0) (hin : laysIn hp (ext L hp0.next hp.next) hp0.blks) (ds : List Dec) (hopt : optsB (keys hp0.blks) hp0.blks = true := by rfl) :
    CallOk P f args hp ⟨rn (ext L hp0.next hp.next) v0, hp.lay L hp0.next out0 wr, ds, pc⟩ := by
  generalize hσ : ext L hp0.next hp.next = σ at *
  have σold : ∀ k, k < hp0.next → σ k = L.getD k 0 := fun k hk => by rw [← hσ]; exact ext_old hk
  have σnew : ∀ k, hp0.next ≤ k → σ k = hp.next + (k - hp0.next) := fun k hk => by rw [← hσ]; exact ext_new hk
  have hlay : hp.lay L hp0.next out0 wr = ⟨layB σ (pick' wr out0.blks) ++ delB (mapN σ wr) hp.blks, hp.next + (out0.next - hp0.next), mapN σ (below hp0.next wr) ++ hp.log⟩ := by simp only [Hp.lay, hσ]
  -- the blocks of the whole, behind it
  have hget : ∀ n b, (hp.lay L hp0.next out0 wr).get n = some b → (∃ n0 b0, n = σ n0 ∧ out0.get n0 = some b0 ∧ b = b0.rn σ) ∨ (hp.get n = some b ∧ ∀ n0 b0, hp0.get n0 = some b0 → σ n0 ≠ n) := fun n b hb => by
    simp only [hlay, Hp.get, lookB_app] at hb
    cases h1 : lookB n (layB σ (pick' wr out0.blks)) with
    | some c =>
      rw [h1] at hb
      simp only [Option.some_or, Option.some.injEq] at hb
      subst hb
      obtain ⟨n0, b0, h2, h3, h4⟩ := lookB_lay h1
      rw [lookB_pick] at h2
      split at h2
      · exact .inl ⟨n0, b0, h3.symm, h2, h4⟩
      · cases h2
    | none =>
      rw [h1] at hb
      simp only [Option.none_or, lookB_del] at hb
      split at hb
      · cases hb
      · rename_i hn
        by_cases hex : ∃ n0 b0, hp0.get n0 = some b0 ∧ σ n0 = n
        · obtain ⟨n0, b0, h2, h3⟩ := hex
          have hnw : n0 ∉ wr := fun hw => hn (has_iff.2 (by rw [mapN_eq]; exact List.mem_map.2 ⟨n0, hw, h3⟩))
          have h4 := laysIn_get hin n0 b0 h2
          rw [h3] at h4
          have h5 : lookB n hp.blks = some (b0.rn σ) := h4
          rw [h5] at hb
          obtain rfl := Option.some.inj hb
          refine .inl ⟨n0, b0, h3.symm, ?_, rfl⟩
          rw [(samesIn_get hsame n0 b0 h2).resolve_left hnw]
          exact h2
        · exact .inr ⟨hb, fun n0 b0 h2 h3 => hex ⟨n0, b0, h2, h3⟩⟩
  refine ⟨⟨by rw [hlay]; exact Nat.le_add_right _ _, fun m _ hm => by rw [hlay]; exact List.mem_append.2 (.inr hm), fun n hn hl => ?_⟩, hent, fun hpc S ρ w cargs hcargs hH hN => ?_⟩
  · -- what was not written to
    have hlog : ∀ n0 ∈ wr, n0 < hp0.next → σ n0 ≠ n := fun n0 hw hlt e => hl (by
      rw [hlay]
      refine List.mem_append.2 (.inl ?_)
      rw [mapN_eq]
      exact List.mem_map.2 ⟨n0, mem_below hlt hw, e⟩)
    have hall : ∀ n0 ∈ wr, σ n0 ≠ n := fun n0 hw e => by
      by_cases hlt : n0 < hp0.next
      · exact hlog n0 hw hlt e
      · rw [σnew n0 (by omega)] at e
        omega
    show (hp.lay L hp0.next out0 wr).get n = hp.get n
    simp only [hlay, Hp.get, lookB_app]
    have h1 : lookB n (layB σ (pick' wr out0.blks)) = none := by
      cases h1 : lookB n (layB σ (pick' wr out0.blks)) with
      | none => rfl
      | some c =>
        obtain ⟨n0, b0, h2, h3, _⟩ := lookB_lay h1
        rw [lookB_pick] at h2
        split at h2
        · rename_i hw
          exact absurd h3 (hall n0 (has_iff.1 hw))
        · cases h2
    rw [h1, Option.none_or, lookB_del, if_neg]
    intro hh
    have := has_iff.1 hh
    rw [mapN_eq] at this
    obtain ⟨n0, hw, e⟩ := List.mem_map.1 this
    exact hall n0 hw e
  · have hblk : ∀ n b, hp0.get n = some b → b.pres = true → ∃ o, w.heap[ρ (σ n)]? = some o ∧ ∀ ρ', Ag S ρ ρ' → (b.rn σ).sat ρ' o := fun n b hb hbp => hH.block (laysIn_get hin n b hb) (by rw [Blk.rn_pres]; exact hbp)
    have htold : ∀ k, k < hp0.next → S (σ k) := fun k hk => by
      have := allHas_mem htell k (mem_upTo hk)
      simp only [tellers, List.mem_append] at this
      rcases this with h | h
      · exact hcargs.told _ (by rw [hargs]; exact nmL_rn' args0 k h)
      · obtain ⟨n, b, h1, h2⟩ := tellB_mem (S := S) h
        have hb : hp0.get n = some b := (keysIn_lt hkeys n b h1).2
        rcases h2 with rfl | h2
        · exact hH.dom _ _ (laysIn_get hin _ b hb)
        · rcases optsB_ok hopt n b h1 with hO | hks
          · obtain ⟨o, _, ho⟩ := hblk n b hb (Blk.pres_isO hO)
            exact Blk.told ho (by rw [Blk.rn_isO]; exact hO) _ (Blk.nm_rn h2)
          · obtain ⟨c, hc⟩ := keys_get (hks k h2)
            exact hH.dom _ _ (laysIn_get hin k c hc)
    have hklt : ∀ n b, hp0.get n = some b → n < hp0.next := fun n b hb => (keysIn_lt hkeys n b (lookB_mem hb)).1
    have hσinj : ∀ n m, n < hp0.next → m < hp0.next → σ n = σ m → n = m := fun n m hn hm e => by
      rw [σold n hn, σold m hm] at e
      have h1 : L[n]? = some (L.getD n 0) := by simp [List.getElem?_eq_getElem (hL ▸ hn)]
      have h2 : L[m]? = some (L.getD n 0) := by rw [e]; simp [List.getElem?_eq_getElem (hL ▸ hm)]
      exact nodupB_get hinj h1 h2
    refine ((hC hpc).2 (fun k => ρ (σ k)) w cargs (fun ρ' ha => ?_) ⟨fun ρ' ha n b hb hbp => ?_, fun n b hb => hklt n b hb, fun n m b c hb hc hbp hcp he => ?_⟩).mono fun e w1 he => ?_
    · -- the arguments
      rw [hcargs.self, hargs, ← renL_map, renL_rn, ← renL_map]
      refine (renL_congr args0 fun k hk => ?_).symm
      exact ha k (allLt_mem hbnd k (List.mem_append.2 (.inl hk)))
    · obtain ⟨o, ho, hs⟩ := hblk n b hb hbp
      refine ⟨o, ho, Blk.sat_congr (ρ := fun k => ρ (σ k)) (fun k hk => ?_) (Blk.sat_rn.1 (hs ρ (Ag.refl _ _)))⟩
      exact ha k (allLt_mem hbnd k (List.mem_append.2 (.inr (tellB_blk (lookB_mem hb) hk))))
    · rcases hH.inj _ _ _ _ (laysIn_get hin n b hb) (laysIn_get hin m c hc) (by rw [Blk.rn_pres]; exact hbp) (by rw [Blk.rn_pres]; exact hcp) he with h | h
      · exact .inl (hσinj n m (hklt n b hb) (hklt m c hc) h)
      · rw [Blk.rn_isV, Blk.rn_isV] at h
        exact .inr h
    · obtain ⟨u, ρ1, rfl, hag, hH1, hV1, hF1⟩ := he
      have hnext : (hp.lay L hp0.next out0 wr).next = hp.next + (out0.next - hp0.next) := by rw [hlay]
      obtain ⟨ρ2, hρ2⟩ : ∃ ρ2 : Nat → Nat, ∀ k, ρ2 k = if hp.next ≤ k ∧ k < hp.next + (out0.next - hp0.next) then ρ1 (hp0.next + (k - hp.next)) else ρ k := ⟨_, fun _ => rfl⟩
      have hSρ : ∀ k, S k → ρ2 k = ρ k := fun k hk => by
        rw [hρ2, if_neg fun h => hN k h.1 (by rw [hnext]; exact h.2) hk]
      have h2 : ∀ k, k < out0.next → ρ2 (σ k) = ρ1 k ∧ SN S hp (hp.lay L hp0.next out0 wr) (σ k) := fun k hk => by
        by_cases hlt : k < hp0.next
        · exact ⟨by rw [hSρ _ (htold k hlt), hag k hlt], .inl (htold k hlt)⟩
        · rw [σnew k (by omega)]
          refine ⟨?_, .inr ⟨by omega, by rw [hnext]; omega⟩⟩
          rw [hρ2, if_pos ⟨by omega, by omega⟩]
          congr 1
          omega
      have hag2 : ∀ ρ', Ag (SN S hp (hp.lay L hp0.next out0 wr)) ρ2 ρ' → Ag (fun k => k < out0.next) ρ1 (ρ' ∘ σ) := fun ρ' ha k hk => by
        obtain ⟨q1, q2⟩ := h2 k hk
        exact (ha _ q2).trans q1
      have hAdom : ∀ n0 b0, out0.get n0 = some b0 → n0 < out0.next := fun n0 b0 h => hH1.dom n0 b0 h
      have hcross : ∀ n0 b0 n b, out0.get n0 = some b0 → hp.get n = some b → (∀ n0 b0, hp0.get n0 = some b0 → σ n0 ≠ n) → b0.pres = true → b.pres = true → ρ1 n0 = ρ n → b0.isV = true ∧ b.isV = true := fun n0 b0 n b h0 hb hno hbp0 hbp he => by
        rcases hF1.new n0 b0 h0 hbp0 with ⟨m, c, hm, hcp, hv, e⟩ | e
        · rcases hH.inj _ _ _ _ (laysIn_get hin m c hm) hb (by rw [Blk.rn_pres]; exact hcp) hbp (e.symm.trans he) with h | h
          · exact absurd h (hno m c hm)
          · rw [Blk.rn_isV, hv] at h; exact h
        · have := hH.lt hb hbp
          omega
      refine ⟨u, rfl, ρ2, hSρ, ⟨fun ρ' ha n b hb hbp => ?_, fun n b hb => ?_, fun n m b c hb hc hbp hcp he => ?_⟩, fun ρ' ha => ?_, ⟨hF1.os, hF1.tape, hF1.output, hF1.size, fun k hk hn => hF1.old k hk fun n0 b0 hb hv => hn _ _ (laysIn_get hin n0 b0 hb) (by rw [Blk.rn_isV]; exact hv), fun n b hb hbp => ?_⟩⟩
      · rcases hget n b hb with ⟨n0, b0, rfl, h0, rfl⟩ | ⟨hb, hno⟩
        · obtain ⟨o, ho, hs⟩ := hH1.sat _ (hag2 ρ' ha) n0 b0 h0 (by rw [← hbp, Blk.rn_pres])
          exact ⟨o, by rw [(h2 n0 (hAdom n0 b0 h0)).1]; exact ho, Blk.sat_rn.2 hs⟩
        · obtain ⟨o, ho, hs⟩ := hH.sat ρ' (fun k hk => (ha k (.inl hk)).trans (hSρ k hk)) n b hb hbp
          refine ⟨o, ?_, hs⟩
          rw [hSρ n (hH.dom n b hb), hF1.old _ (hH.lt hb hbp) fun n0 b0 h0 hv he => ?_]
          · exact ho
          · rcases hH.inj _ _ _ _ (laysIn_get hin n0 b0 h0) hb (by rw [Blk.rn_pres]; exact Blk.pres_of hv) hbp he with h | h
            · exact hno n0 b0 h0 h
            · rw [Blk.rn_isV, hv] at h; cases h.1
      · rcases hget n b hb with ⟨n0, b0, rfl, h0, rfl⟩ | ⟨hb, _⟩
        · exact (h2 n0 (hAdom n0 b0 h0)).2
        · exact .inl (hH.dom n b hb)
      · rcases hget n b hb with ⟨n0, b0, rfl, h0, rfl⟩ | ⟨hb, hno⟩ <;> rcases hget m c hc with ⟨m0, c0, rfl, k0, rfl⟩ | ⟨hc, hno'⟩
        · rw [(h2 n0 (hAdom n0 b0 h0)).1, (h2 m0 (hAdom m0 c0 k0)).1] at he
          rw [Blk.rn_isV, Blk.rn_isV]
          rw [Blk.rn_pres] at hbp hcp
          rcases hH1.inj n0 m0 b0 c0 h0 k0 hbp hcp he with h | h
          · exact .inl (by rw [h])
          · exact .inr h
        · rw [(h2 n0 (hAdom n0 b0 h0)).1, hSρ m (hH.dom m c hc)] at he
          rw [Blk.rn_isV]
          exact .inr (hcross n0 b0 m c h0 hc hno' (by rw [← hbp, Blk.rn_pres]) hcp he)
        · rw [(h2 m0 (hAdom m0 c0 k0)).1, hSρ n (hH.dom n b hb)] at he
          rw [Blk.rn_isV]
          exact .inr (hcross m0 c0 n b k0 hb hno (by rw [← hcp, Blk.rn_pres]) hbp he.symm).symm
        · rw [hSρ n (hH.dom n b hb), hSρ m (hH.dom m c hc)] at he
          exact hH.inj n m b c hb hc hbp hcp he
      · rw [ren_rn]
        exact hV1 _ (hag2 ρ' ha)
      · rcases hget n b hb with ⟨n0, b0, rfl, h0, rfl⟩ | ⟨hb, _⟩
        · rw [(h2 n0 (hAdom n0 b0 h0)).1, Blk.rn_isV]
          rcases hF1.new n0 b0 h0 (by rw [← hbp, Blk.rn_pres]) with ⟨m, c, hm, hcp, hv, e⟩ | h
          · exact .inl ⟨_, _, laysIn_get hin m c hm, by rw [Blk.rn_pres]; exact hcp, by rw [Blk.rn_isV]; exact hv, e⟩
          · exact .inr h
        · exact .inl ⟨n, b, hb, hbp, rfl, hSρ n (hH.dom n b hb)⟩
end
/-- One more function is told. -/
def Env.add (E : Env) (f : FuncId) (g : List Value → Hp → Option (Value × Hp × List Prop)) : Env :=
  ⟨E.P, fun f' args hp => bif Nat.beq f' f then g args hp else E.orc f' args hp, E.eqs⟩
theorem EnvOk.add {E : Env} (hE : EnvOk E) {f : FuncId} {g : List Value → Hp → Option (Value × Hp × List Prop)} (hg : ∀ args hp v hp' pc, g args hp = some (v, hp', pc) → ∀ ds, CallOk E.P f args hp ⟨v, hp', ds, pc⟩) : EnvOk (E.add f g) :=
  ⟨hE.mixed, hE.eqs, fun f' args hp v hp' pc h ds => by
    simp only [Env.add] at h ⊢
    cases hf : Nat.beq f' f
    · simp only [hf, cond_false] at h
      exact hE.orc _ _ _ _ _ _ h ds
    · simp only [hf, cond_true] at h
      obtain rfl := beq_nat hf
      exact hg _ _ _ _ _ h ds⟩
end Go.Proofs.YtocfhiafegkfkaaGreat.Ev
