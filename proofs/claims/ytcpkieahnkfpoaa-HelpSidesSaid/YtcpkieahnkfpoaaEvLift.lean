/- What a call comes to, by its own names, is what it comes to in any heap. -/
import Derived.Test.YtcpkieahnkfpoaaEvLoop
namespace Go.Proofs.Ytcpkieahnkfpoaa.Ev
open Go Go.RowKit

mutual
theorem ren_inj {ρ ρ' : Nat → Nat} : ∀ v, ren ρ' v = ren ρ v → ∀ k ∈ nm v, ρ' k = ρ k
  | .pointer none, _, k, hk => by simp [nm] at hk
  | .pointer (some a), h, k, hk => by
    simp only [nm, List.mem_singleton] at hk
    simp only [ren, renAddr] at h
    injection h with h; injection h with h; injection h with h
    rw [hk, h]
  | .slice none _ _, _, k, hk => by simp [nm] at hk
  | .slice (some ⟨b, o, none⟩) n c, h, k, hk => by
    simp only [nm, List.mem_singleton] at hk
    simp only [ren, renAddr] at h
    injection h with h _ _; injection h with h; injection h with h
    rw [hk, h]
  | .slice (some ⟨b, o, some k'⟩) n c, h, k, hk => by
    simp only [nm, List.mem_cons, List.not_mem_nil, or_false] at hk
    simp only [ren, renAddr] at h
    injection h with h _ h2; injection h with h; injection h with h
    rcases hk with rfl | rfl
    · exact h
    · exact h2
  | .func fn f c, h, k, hk => by
    simp only [nm, List.mem_append] at hk
    simp only [ren] at h
    injection h with _ h1 h2
    rcases hk with hk | hk
    · exact renA_inj f h1 k hk
    · exact renA_inj c h2 k hk
  | .agg cs, h, k, hk => by
    simp only [nm] at hk
    simp only [ren] at h
    injection h with h
    exact renA_inj cs h k hk
  | .tuple cs, h, k, hk => by
    simp only [nm] at hk
    simp only [ren] at h
    injection h with h
    exact renA_inj cs h k hk
  | .bool _, _, k, hk | .int _ _, _, k, hk | .float _ _, _, k, hk | .complex _ _ _, _, k, hk | .string _, _, k, hk | .map _, _, k, hk | .chan _, _, k, hk | .nilFunc, _, k, hk | .iface _ _, _, k, hk | .nilIface, _, k, hk => by simp [nm] at hk
theorem renA_inj {ρ ρ' : Nat → Nat} : ∀ a, renA ρ' a = renA ρ a → ∀ k ∈ nmA a, ρ' k = ρ k
  | ⟨l⟩, h, k, hk => by
    simp only [renA] at h
    injection h with h
    exact renL_inj l h k hk
theorem renL_inj {ρ ρ' : Nat → Nat} : ∀ l, renL ρ' l = renL ρ l → ∀ k ∈ nmL l, ρ' k = ρ k
  | [], _, k, hk => by simp [nmL] at hk
  | v :: l, h, k, hk => by
    simp only [nmL, List.mem_append] at hk
    simp only [renL] at h
    injection h with h1 h2
    rcases hk with hk | hk
    · exact ren_inj v h1 k hk
    · exact renL_inj l h2 k hk
end

/-- A value that is told names only what is told. -/
theorem upd_ag {S : Nat → Prop} {ρ : Nat → Nat} {k x : Nat} (hk : ¬ S k) : Ag S ρ (fun j => if j = k then x else ρ j) := fun j hj => if_neg (fun (e : j = k) => hk (e ▸ hj))
theorem VRL.told {S : Nat → Prop} {ρ : Nat → Nat} {l u : List Value} (h : VRL S ρ l u) : ∀ k ∈ nmL l, S k := fun k hk => Classical.byContradiction fun hS => by
  have h1 := h _ (upd_ag (x := 0) hS)
  have h2 := h _ (upd_ag (x := 1) hS)
  rw [h1] at h2
  simp only [← renL_map] at h2
  have := renL_inj l h2 k hk
  simp at this
theorem Blk.told {S : Nat → Prop} {ρ : Nat → Nat} {b : Blk} {o : Obj} (h : ∀ ρ', Ag S ρ ρ' → b.sat ρ' o) : ∀ k ∈ b.nm, S k := by
  induction b generalizing o with
  | cells cs ty =>
    refine fun k hk => Classical.byContradiction fun hS => ?_
    have h1 : o = _ := h _ (upd_ag (x := 0) hS)
    have h2 : o = _ := h _ (upd_ag (x := 1) hS)
    rw [h1] at h2
    injection h2 with h2 _ _
    injection h2 with h2
    simp only [← renL_map] at h2
    have := renL_inj cs h2 k hk
    simp at this
  | own b c ih =>
    intro k hk
    simp only [Blk.nm, List.mem_cons] at hk
    rcases hk with rfl | hk
    · refine Classical.byContradiction fun hS => ?_
      have := (h _ (upd_ag (x := maxLen + 1) hS)).2.2.2
      simp at this
      exact absurd this (Nat.not_succ_le_self _)
    · exact ih (fun ρ' ha => (h ρ' ha).1) k hk
  | _ => intro k hk; simp [Blk.nm] at hk

def ext (L : List Nat) (m0 nx k : Nat) : Nat := bif Nat.blt k m0 then L.getD k 0 else nx + (k - m0)
theorem ext_old {L : List Nat} {m0 nx k : Nat} (h : k < m0) : ext L m0 nx k = L.getD k 0 := by
  have : Nat.blt k m0 = true := by simp [Nat.blt]; omega
  simp only [ext, this, cond_true]
theorem ext_new {L : List Nat} {m0 nx k : Nat} (h : m0 ≤ k) : ext L m0 nx k = nx + (k - m0) := by
  have : Nat.blt k m0 = false := by
    cases h' : Nat.blt k m0
    · rfl
    · simp [Nat.blt] at h'; omega
  simp only [ext, this, cond_false]
def layB (σ : Nat → Nat) : List (Nat × Blk) → List (Nat × Blk)
  | [] => []
  | (n, b) :: r => (σ n, b.rn σ) :: layB σ r
def mapN (σ : Nat → Nat) : List Nat → List Nat
  | [] => []
  | n :: r => σ n :: mapN σ r
theorem mapN_eq (σ : Nat → Nat) : ∀ l, mapN σ l = l.map σ
  | [] => rfl
  | n :: r => by simp only [mapN, List.map_cons, mapN_eq σ r]
/-- A heap into which a part is laid back, of which wr was written to, or made. -/
def Hp.lay (hp : Hp) (L : List Nat) (m0 : Nat) (out : Hp) (wr : List Nat) : Hp :=
  ⟨layB (ext L m0 hp.next) (pick' wr out.blks) ++ delB (mapN (ext L m0 hp.next) wr) hp.blks, hp.next + (out.next - m0), mapN (ext L m0 hp.next) (below m0 wr) ++ hp.log⟩
theorem lookB_lay {σ : Nat → Nat} {n : Nat} {b : Blk} : ∀ {l : List (Nat × Blk)}, lookB n (layB σ l) = some b → ∃ n0 b0, lookB n0 l = some b0 ∧ σ n0 = n ∧ b = b0.rn σ
  | [], h => by simp [layB, lookB] at h
  | (m, c) :: r, h => by
    simp only [layB, lookB] at h
    cases hm : Nat.beq (σ m) n
    · simp only [hm, cond_false] at h
      obtain ⟨n0, b0, h1, h2, h3⟩ := lookB_lay h
      refine ⟨n0, b0, ?_, h2, h3⟩
      simp only [lookB]
      cases hk : Nat.beq m n0
      · exact h1
      · have := beq_nat hk
        subst this
        exact absurd h2 (bne_nat hm)
    · simp only [hm, cond_true, Option.some.injEq] at h
      exact ⟨m, c, by simp [lookB], beq_nat hm, h.symm⟩
theorem lookB_lay_none {σ : Nat → Nat} {n : Nat} : ∀ {l : List (Nat × Blk)}, lookB n (layB σ l) = none → ∀ n0 b0, lookB n0 l = some b0 → σ n0 ≠ n
  | [], _, n0, b0, h => by simp [lookB] at h
  | (m, c) :: r, h, n0, b0, h0 => by
    simp only [layB, lookB] at h
    cases hm : Nat.beq (σ m) n
    · simp only [hm, cond_false] at h
      simp only [lookB] at h0
      cases hk : Nat.beq m n0
      · simp only [hk, cond_false] at h0
        exact lookB_lay_none h n0 b0 h0
      · have := beq_nat hk
        subst this
        exact bne_nat hm
    · simp only [hm, cond_true, reduceCtorEq] at h

/-- Every name below m0 is told by the arguments, or by the heap. -/
def tellers (args : List Value) (hp : Hp) : List Nat := nmL args ++ tellB hp.blks
where tellB : List (Nat × Blk) → List Nat
  | [] => []
  | (n, b) :: r => n :: (b.nm ++ tellB r)
def upTo : Nat → List Nat
  | 0 => []
  | n + 1 => n :: upTo n
theorem mem_upTo {n k : Nat} (h : k < n) : k ∈ upTo n := by
  induction n with
  | zero => omega
  | succ n ih =>
    simp only [upTo, List.mem_cons]
    by_cases e : k = n
    · exact .inl e
    · exact .inr (ih (by omega))
/-- The blocks are the whole's, under their names. -/
def laysIn (hp : Hp) (σ : Nat → Nat) : List (Nat × Blk) → Prop
  | [] => True
  | (n, b) :: r => hp.get (σ n) = some (b.rn σ) ∧ laysIn hp σ r
theorem laysIn_get {hp : Hp} {σ : Nat → Nat} : ∀ {l : List (Nat × Blk)}, laysIn hp σ l → ∀ n b, lookB n l = some b → hp.get (σ n) = some (b.rn σ)
  | [], _, n, b, h => by simp [lookB] at h
  | (m, c) :: r, h, n, b, hb => by
    simp only [lookB] at hb
    cases hm : Nat.beq m n
    · simp only [hm, cond_false] at hb
      exact laysIn_get h.2 n b hb
    · simp only [hm, cond_true, Option.some.injEq] at hb
      have := beq_nat hm
      subst this
      subst hb
      exact h.1
/-- What was not written to, nor made, is as it was. -/
def samesIn (hp out : Hp) (wr : List Nat) : List (Nat × Blk) → Prop
  | [] => True
  | (n, _) :: r => (n ∈ wr ∨ out.get n = hp.get n) ∧ samesIn hp out wr r
theorem samesIn_get {hp out : Hp} {wr : List Nat} : ∀ {l : List (Nat × Blk)}, samesIn hp out wr l → ∀ n b, lookB n l = some b → n ∈ wr ∨ out.get n = hp.get n
  | [], _, n, b, h => by simp [lookB] at h
  | (m, c) :: r, h, n, b, hb => by
    simp only [lookB] at hb
    cases hm : Nat.beq m n
    · simp only [hm, cond_false] at hb
      exact samesIn_get h.2 n b hb
    · have := beq_nat hm
      subst this
      exact h.1

theorem tellB_mem {S : Nat → Prop} {k : Nat} : ∀ {l : List (Nat × Blk)}, k ∈ tellers.tellB l → ∃ n b, (n, b) ∈ l ∧ (k = n ∨ k ∈ b.nm)
  | [], h => by simp [tellers.tellB] at h
  | (n, b) :: r, h => by
    simp only [tellers.tellB, List.mem_cons, List.mem_append] at h
    rcases h with rfl | h | h
    · exact ⟨_, b, by simp, .inl rfl⟩
    · exact ⟨n, b, by simp, .inr h⟩
    · obtain ⟨n', b', h1, h2⟩ := tellB_mem (S := S) h
      exact ⟨n', b', by simp [h1], h2⟩
theorem nmL_rn {σ : Nat → Nat} {k : Nat} : ∀ {l : List Value}, k ∈ nmL l → ∃ v ∈ l, k ∈ nm v
  | [], h => by simp [nmL] at h
  | v :: l, h => by
    simp only [nmL, List.mem_append] at h
    rcases h with h | h
    · exact ⟨v, by simp, h⟩
    · obtain ⟨v', h1, h2⟩ := nmL_rn (σ := σ) h
      exact ⟨v', by simp [h1], h2⟩
mutual
theorem nm_rn {σ : Nat → Nat} : ∀ v k, k ∈ nm v → σ k ∈ nm (rn σ v)
  | .pointer none, k, hk => by simp [nm] at hk
  | .pointer (some a), k, hk => by simp only [nm, List.mem_singleton] at hk; simp [rn, nm, hk]
  | .slice none _ _, k, hk => by simp [nm] at hk
  | .slice (some ⟨b, o, none⟩) n c, k, hk => by simp only [nm, List.mem_singleton] at hk; simp [rn, nm, hk]
  | .slice (some ⟨b, o, some k'⟩) n c, k, hk => by
    simp only [nm, List.mem_cons, List.not_mem_nil, or_false] at hk
    rcases hk with rfl | rfl <;> simp [rn, nm]
  | .func fn f c, k, hk => by
    simp only [nm, List.mem_append] at hk
    simp only [rn, nm, List.mem_append]
    exact hk.imp (nmA_rn f k) (nmA_rn c k)
  | .agg cs, k, hk => by
    simp only [nm] at hk
    simp only [rn, nm]
    exact nmA_rn cs k hk
  | .tuple cs, k, hk => by
    simp only [nm] at hk
    simp only [rn, nm]
    exact nmA_rn cs k hk
  | .bool _, k, hk | .int _ _, k, hk | .float _ _, k, hk | .complex _ _ _, k, hk | .string _, k, hk | .map _, k, hk | .chan _, k, hk | .nilFunc, k, hk | .iface _ _, k, hk | .nilIface, k, hk => by simp [nm] at hk
theorem nmA_rn {σ : Nat → Nat} : ∀ a k, k ∈ nmA a → σ k ∈ nmA (rnA σ a)
  | ⟨l⟩, k, hk => nmL_rn' l k hk
theorem nmL_rn' {σ : Nat → Nat} : ∀ l k, k ∈ nmL l → σ k ∈ nmL (rnL σ l)
  | [], k, hk => by simp [nmL] at hk
  | v :: l, k, hk => by
    simp only [nmL, List.mem_append] at hk
    simp only [rnL, nmL, List.mem_append]
    exact hk.imp (nm_rn v k) (nmL_rn' l k)
end
theorem Blk.nm_rn {σ : Nat → Nat} {b : Blk} {k : Nat} (h : k ∈ b.nm) : σ k ∈ (b.rn σ).nm := by
  induction b with
  | cells cs ty => exact nmL_rn' cs k h
  | own b c ih =>
    simp only [Blk.nm, List.mem_cons] at h
    simp only [Blk.rn, Blk.nm, List.mem_cons]
    rcases h with rfl | h
    · exact .inl rfl
    · exact .inr (ih h)
  | _ => simp [Blk.nm] at h

def keysIn (m0 : Nat) : List (Nat × Blk) → Bool
  | [] => true
  | (n, _) :: r => bif Nat.blt n m0 then (bif has n (keys r) then false else keysIn m0 r) else false
theorem keysIn_lt {m0 : Nat} : ∀ {l : List (Nat × Blk)}, keysIn m0 l = true → ∀ n b, (n, b) ∈ l → n < m0 ∧ lookB n l = some b
  | [], _, n, b, h => by simp at h
  | (m, c) :: r, h, n, b, hb => by
    simp only [keysIn] at h
    cases hm : Nat.blt m m0
    · simp only [hm, cond_false, Bool.false_eq_true] at h
    · simp only [hm, cond_true] at h
      cases hk : has m (keys r)
      · simp only [hk, cond_false] at h
        rcases List.mem_cons.1 hb with e | hb
        · injection e with e1 e2
          subst e1; subst e2
          exact ⟨Nat.lt_of_succ_le (by simpa [Nat.blt] using hm), by simp [lookB]⟩
        · obtain ⟨h1, h2⟩ := keysIn_lt h n b hb
          refine ⟨h1, ?_⟩
          simp only [lookB]
          cases hmn : Nat.beq m n
          · exact h2
          · exfalso
            have := beq_nat hmn
            subst this
            have hin : m ∈ keys r := by
              clear h h2 hk
              induction r with
              | nil => simp at hb
              | cons p r ih =>
                obtain ⟨q, d⟩ := p
                simp only [keys, List.mem_cons]
                rcases List.mem_cons.1 hb with e | hb
                · injection e with e1 _; exact .inl e1
                · exact .inr (ih (List.mem_cons_of_mem _ hb) hb)
            rw [has_iff.2 hin] at hk
            cases hk
      · simp only [hk, cond_true, Bool.false_eq_true] at h
theorem lookB_mem {n : Nat} {b : Blk} : ∀ {l : List (Nat × Blk)}, lookB n l = some b → (n, b) ∈ l
  | [], h => by simp [lookB] at h
  | (m, c) :: r, h => by
    simp only [lookB] at h
    cases hm : Nat.beq m n
    · simp only [hm, cond_false] at h
      exact List.mem_cons_of_mem _ (lookB_mem h)
    · simp only [hm, cond_true, Option.some.injEq] at h
      have := beq_nat hm
      subst this; subst h
      exact List.mem_cons_self

def allLt (m : Nat) : List Nat → Bool
  | [] => true
  | n :: r => bif Nat.blt n m then allLt m r else false
theorem allLt_mem {m : Nat} : ∀ {l : List Nat}, allLt m l = true → ∀ n ∈ l, n < m
  | [], _, n, h => by simp at h
  | k :: r, h, n, hn => by
    simp only [allLt] at h
    cases hk : Nat.blt k m
    · simp only [hk, cond_false, Bool.false_eq_true] at h
    · simp only [hk, cond_true] at h
      rcases List.mem_cons.1 hn with rfl | hn
      · exact Nat.lt_of_succ_le (by simpa [Nat.blt] using hk)
      · exact allLt_mem h n hn
theorem tellB_blk {n k : Nat} {b : Blk} : ∀ {l : List (Nat × Blk)}, (n, b) ∈ l → k ∈ b.nm → k ∈ tellers.tellB l
  | [], h, _ => by simp at h
  | (m, c) :: r, h, hk => by
    simp only [tellers.tellB, List.mem_cons, List.mem_append]
    rcases List.mem_cons.1 h with e | h
    · injection e with _ e2
      subst e2
      exact .inr (.inl hk)
    · exact .inr (.inr (tellB_blk h hk))

section
variable {P : Program} {f : FuncId}
/-- A call that is told by its own names, in any heap into which its own one is laid. -/
theorem CallC.lift {args0 : List Value} {hp0 out0 : Hp} {v0 : Value} {pc : List Prop} (hent : Enters P f) (hC : (∀ p ∈ pc, p) → CallC P f args0 hp0 v0 out0) (L wr : List Nat) (hle : hp0.next ≤ out0.next)
    (hkeys : keysIn hp0.next hp0.blks = true) (hbnd : allLt hp0.next (tellers args0 hp0) = true) (htell : allHas (tellers args0 hp0) (upTo hp0.next) = true) (hinj : nodupB L = true) (hL : L.length = hp0.next)
    (hsame : samesIn hp0 out0 wr hp0.blks)
    {hp : Hp} {args : List Value} (hargs : args = rnL (ext L hp0.next hp.next) args0) (hin : laysIn hp (ext L hp0.next hp.next) hp0.blks) (ds : List Dec) :
    CallOk P f args hp ⟨rn (ext L hp0.next hp.next) v0, hp.lay L hp0.next out0 wr, ds, pc⟩ := by
  generalize hσ : ext L hp0.next hp.next = σ at *
  have σold : ∀ k, k < hp0.next → σ k = L.getD k 0 := fun k hk => by rw [← hσ]; exact ext_old hk
  have σnew : ∀ k, hp0.next ≤ k → σ k = hp.next + (k - hp0.next) := fun k hk => by rw [← hσ]; exact ext_new hk
  have hlay : hp.lay L hp0.next out0 wr = ⟨layB σ (pick' wr out0.blks) ++ delB (mapN σ wr) hp.blks, hp.next + (out0.next - hp0.next), mapN σ (below hp0.next wr) ++ hp.log⟩ := by simp only [Hp.lay, hσ]
  -- the blocks of the whole, behind it
  have hget : ∀ n b, (hp.lay L hp0.next out0 wr).get n = some b → (∃ n0 b0, n = σ n0 ∧ out0.get n0 = some b0 ∧ b = b0.rn σ) ∨ (hp.get n = some b ∧ ∀ n0 b0, hp0.get n0 = some b0 → σ n0 ≠ n) := fun n b hb => by
    simp only [hlay, Hp.get, lookB_app] at hb
    cases h1 : lookB n (layB σ (pick' wr out0.blks)) with
    | some c =>
      rw [h1] at hb
      simp only [Option.some_or, Option.some.injEq] at hb
      subst hb
      obtain ⟨n0, b0, h2, h3, h4⟩ := lookB_lay h1
      rw [lookB_pick] at h2
      split at h2
      · exact .inl ⟨n0, b0, h3.symm, h2, h4⟩
      · cases h2
    | none =>
      rw [h1] at hb
      simp only [Option.none_or, lookB_del] at hb
      split at hb
      · cases hb
      · rename_i hn
        by_cases hex : ∃ n0 b0, hp0.get n0 = some b0 ∧ σ n0 = n
        · obtain ⟨n0, b0, h2, h3⟩ := hex
          have hnw : n0 ∉ wr := fun hw => hn (has_iff.2 (by rw [mapN_eq]; exact List.mem_map.2 ⟨n0, hw, h3⟩))
          have h4 := laysIn_get hin n0 b0 h2
          rw [h3] at h4
          have h5 : lookB n hp.blks = some (b0.rn σ) := h4
          rw [h5] at hb
          obtain rfl := Option.some.inj hb
          refine .inl ⟨n0, b0, h3.symm, ?_, rfl⟩
          rw [(samesIn_get hsame n0 b0 h2).resolve_left hnw]
          exact h2
        · exact .inr ⟨hb, fun n0 b0 h2 h3 => hex ⟨n0, b0, h2, h3⟩⟩
  refine ⟨⟨by rw [hlay]; exact Nat.le_add_right _ _, fun m _ hm => by rw [hlay]; exact List.mem_append.2 (.inr hm), fun n hn hl => ?_⟩, hent, fun hpc S ρ w cargs hcargs hH hN => ?_⟩
  · -- what was not written to
    have hlog : ∀ n0 ∈ wr, n0 < hp0.next → σ n0 ≠ n := fun n0 hw hlt e => hl (by
      rw [hlay]
      refine List.mem_append.2 (.inl ?_)
      rw [mapN_eq]
      exact List.mem_map.2 ⟨n0, mem_below hlt hw, e⟩)
    have hall : ∀ n0 ∈ wr, σ n0 ≠ n := fun n0 hw e => by
      by_cases hlt : n0 < hp0.next
      · exact hlog n0 hw hlt e
      · rw [σnew n0 (by omega)] at e
        omega
    show (hp.lay L hp0.next out0 wr).get n = hp.get n
    simp only [hlay, Hp.get, lookB_app]
    have h1 : lookB n (layB σ (pick' wr out0.blks)) = none := by
      cases h1 : lookB n (layB σ (pick' wr out0.blks)) with
      | none => rfl
      | some c =>
        obtain ⟨n0, b0, h2, h3, _⟩ := lookB_lay h1
        rw [lookB_pick] at h2
        split at h2
        · rename_i hw
          exact absurd h3 (hall n0 (has_iff.1 hw))
        · cases h2
    rw [h1, Option.none_or, lookB_del, if_neg]
    intro hh
    have := has_iff.1 hh
    rw [mapN_eq] at this
    obtain ⟨n0, hw, e⟩ := List.mem_map.1 this
    exact hall n0 hw e
  · have hblk : ∀ n b, hp0.get n = some b → ∃ o, w.heap[ρ (σ n)]? = some o ∧ ∀ ρ', Ag S ρ ρ' → (b.rn σ).sat ρ' o := fun n b hb => hH.block (laysIn_get hin n b hb)
    have htold : ∀ k, k < hp0.next → S (σ k) := fun k hk => by
      have := allHas_mem htell k (mem_upTo hk)
      simp only [tellers, List.mem_append] at this
      rcases this with h | h
      · exact hcargs.told _ (by rw [hargs]; exact nmL_rn' args0 k h)
      · obtain ⟨n, b, h1, h2⟩ := tellB_mem (S := S) h
        have hb : hp0.get n = some b := (keysIn_lt hkeys n b h1).2
        rcases h2 with rfl | h2
        · exact hH.dom _ _ (laysIn_get hin _ b hb)
        · obtain ⟨o, _, ho⟩ := hblk n b hb
          exact Blk.told ho _ (Blk.nm_rn h2)
    have hklt : ∀ n b, hp0.get n = some b → n < hp0.next := fun n b hb => (keysIn_lt hkeys n b (lookB_mem hb)).1
    have hσinj : ∀ n m, n < hp0.next → m < hp0.next → σ n = σ m → n = m := fun n m hn hm e => by
      rw [σold n hn, σold m hm] at e
      have h1 : L[n]? = some (L.getD n 0) := by simp [List.getElem?_eq_getElem (hL ▸ hn)]
      have h2 : L[m]? = some (L.getD n 0) := by rw [e]; simp [List.getElem?_eq_getElem (hL ▸ hm)]
      exact nodupB_get hinj h1 h2
    refine ((hC hpc).2 (fun k => ρ (σ k)) w cargs (fun ρ' ha => ?_) ⟨fun ρ' ha n b hb => ?_, fun n b hb => hklt n b hb, fun n m b c hb hc he => ?_⟩).mono fun e w1 he => ?_
    · -- the arguments
      rw [hcargs.self, hargs, ← renL_map, renL_rn, ← renL_map]
      refine (renL_congr args0 fun k hk => ?_).symm
      exact ha k (allLt_mem hbnd k (List.mem_append.2 (.inl hk)))
    · obtain ⟨o, ho, hs⟩ := hblk n b hb
      refine ⟨o, ho, Blk.sat_congr (ρ := fun k => ρ (σ k)) (fun k hk => ?_) (Blk.sat_rn.1 (hs ρ (Ag.refl _ _)))⟩
      exact ha k (allLt_mem hbnd k (List.mem_append.2 (.inr (tellB_blk (lookB_mem hb) hk))))
    · rcases hH.inj _ _ _ _ (laysIn_get hin n b hb) (laysIn_get hin m c hc) he with h | h
      · exact .inl (hσinj n m (hklt n b hb) (hklt m c hc) h)
      · rw [Blk.rn_isV, Blk.rn_isV] at h
        exact .inr h
    · obtain ⟨u, ρ1, rfl, hag, hH1, hV1, hF1⟩ := he
      have hnext : (hp.lay L hp0.next out0 wr).next = hp.next + (out0.next - hp0.next) := by rw [hlay]
      obtain ⟨ρ2, hρ2⟩ : ∃ ρ2 : Nat → Nat, ∀ k, ρ2 k = if hp.next ≤ k ∧ k < hp.next + (out0.next - hp0.next) then ρ1 (hp0.next + (k - hp.next)) else ρ k := ⟨_, fun _ => rfl⟩
      have hSρ : ∀ k, S k → ρ2 k = ρ k := fun k hk => by
        rw [hρ2, if_neg fun h => hN k h.1 (by rw [hnext]; exact h.2) hk]
      have h2 : ∀ k, k < out0.next → ρ2 (σ k) = ρ1 k ∧ SN S hp (hp.lay L hp0.next out0 wr) (σ k) := fun k hk => by
        by_cases hlt : k < hp0.next
        · exact ⟨by rw [hSρ _ (htold k hlt), hag k hlt], .inl (htold k hlt)⟩
        · rw [σnew k (by omega)]
          refine ⟨?_, .inr ⟨by omega, by rw [hnext]; omega⟩⟩
          rw [hρ2, if_pos ⟨by omega, by omega⟩]
          congr 1
          omega
      have hag2 : ∀ ρ', Ag (SN S hp (hp.lay L hp0.next out0 wr)) ρ2 ρ' → Ag (fun k => k < out0.next) ρ1 (ρ' ∘ σ) := fun ρ' ha k hk => by
        obtain ⟨q1, q2⟩ := h2 k hk
        exact (ha _ q2).trans q1
      have hAdom : ∀ n0 b0, out0.get n0 = some b0 → n0 < out0.next := fun n0 b0 h => hH1.dom n0 b0 h
      have hcross : ∀ n0 b0 n b, out0.get n0 = some b0 → hp.get n = some b → (∀ n0 b0, hp0.get n0 = some b0 → σ n0 ≠ n) → ρ1 n0 = ρ n → b0.isV = true ∧ b.isV = true := fun n0 b0 n b h0 hb hno he => by
        rcases hF1.new n0 b0 h0 with ⟨m, c, hm, hv, e⟩ | e
        · rcases hH.inj _ _ _ _ (laysIn_get hin m c hm) hb (e.symm.trans he) with h | h
          · exact absurd h (hno m c hm)
          · rw [Blk.rn_isV, hv] at h; exact h
        · have := hH.lt hb
          omega
      refine ⟨u, rfl, ρ2, hSρ, ⟨fun ρ' ha n b hb => ?_, fun n b hb => ?_, fun n m b c hb hc he => ?_⟩, fun ρ' ha => ?_, ⟨hF1.os, hF1.tape, hF1.output, hF1.size, fun k hk hn => hF1.old k hk fun n0 b0 hb hv => hn _ _ (laysIn_get hin n0 b0 hb) (by rw [Blk.rn_isV]; exact hv), fun n b hb => ?_⟩⟩
      · rcases hget n b hb with ⟨n0, b0, rfl, h0, rfl⟩ | ⟨hb, hno⟩
        · obtain ⟨o, ho, hs⟩ := hH1.sat _ (hag2 ρ' ha) n0 b0 h0
          exact ⟨o, by rw [(h2 n0 (hAdom n0 b0 h0)).1]; exact ho, Blk.sat_rn.2 hs⟩
        · obtain ⟨o, ho, hs⟩ := hH.sat ρ' (fun k hk => (ha k (.inl hk)).trans (hSρ k hk)) n b hb
          refine ⟨o, ?_, hs⟩
          rw [hSρ n (hH.dom n b hb), hF1.old _ (hH.lt hb) fun n0 b0 h0 hv he => ?_]
          · exact ho
          · rcases hH.inj _ _ _ _ (laysIn_get hin n0 b0 h0) hb he with h | h
            · exact hno n0 b0 h0 h
            · rw [Blk.rn_isV, hv] at h; cases h.1
      · rcases hget n b hb with ⟨n0, b0, rfl, h0, rfl⟩ | ⟨hb, _⟩
        · exact (h2 n0 (hAdom n0 b0 h0)).2
        · exact .inl (hH.dom n b hb)
      · rcases hget n b hb with ⟨n0, b0, rfl, h0, rfl⟩ | ⟨hb, hno⟩ <;> rcases hget m c hc with ⟨m0, c0, rfl, k0, rfl⟩ | ⟨hc, hno'⟩
        · rw [(h2 n0 (hAdom n0 b0 h0)).1, (h2 m0 (hAdom m0 c0 k0)).1] at he
          rw [Blk.rn_isV, Blk.rn_isV]
          rcases hH1.inj n0 m0 b0 c0 h0 k0 he with h | h
          · exact .inl (by rw [h])
          · exact .inr h
        · rw [(h2 n0 (hAdom n0 b0 h0)).1, hSρ m (hH.dom m c hc)] at he
          rw [Blk.rn_isV]
          exact .inr (hcross n0 b0 m c h0 hc hno' he)
        · rw [(h2 m0 (hAdom m0 c0 k0)).1, hSρ n (hH.dom n b hb)] at he
          rw [Blk.rn_isV]
          exact .inr (hcross m0 c0 n b k0 hb hno he.symm).symm
        · rw [hSρ n (hH.dom n b hb), hSρ m (hH.dom m c hc)] at he
          exact hH.inj n m b c hb hc he
      · rw [ren_rn]
        exact hV1 _ (hag2 ρ' ha)
      · rcases hget n b hb with ⟨n0, b0, rfl, h0, rfl⟩ | ⟨hb, _⟩
        · rw [(h2 n0 (hAdom n0 b0 h0)).1, Blk.rn_isV]
          rcases hF1.new n0 b0 h0 with ⟨m, c, hm, hv, e⟩ | h
          · exact .inl ⟨_, _, laysIn_get hin m c hm, by rw [Blk.rn_isV]; exact hv, e⟩
          · exact .inr h
        · exact .inl ⟨n, b, hb, rfl, hSρ n (hH.dom n b hb)⟩
end
/-- One more function is told. -/
def Env.add (E : Env) (f : FuncId) (g : List Value → Hp → Option (Value × Hp × List Prop)) : Env :=
  ⟨E.P, fun f' args hp => bif Nat.beq f' f then g args hp else E.orc f' args hp, E.eqs⟩
theorem EnvOk.add {E : Env} (hE : EnvOk E) {f : FuncId} {g : List Value → Hp → Option (Value × Hp × List Prop)} (hg : ∀ args hp v hp' pc, g args hp = some (v, hp', pc) → ∀ ds, CallOk E.P f args hp ⟨v, hp', ds, pc⟩) : EnvOk (E.add f g) :=
  ⟨hE.mixed, hE.eqs, fun f' args hp v hp' pc h ds => by
    simp only [Env.add] at h ⊢
    cases hf : Nat.beq f' f
    · simp only [hf, cond_false] at h
      exact hE.orc _ _ _ _ _ _ h ds
    · simp only [hf, cond_true] at h
      obtain rfl := beq_nat hf
      exact hg _ _ _ _ _ h ds⟩
end Go.Proofs.Ytcpkieahnkfpoaa.Ev
