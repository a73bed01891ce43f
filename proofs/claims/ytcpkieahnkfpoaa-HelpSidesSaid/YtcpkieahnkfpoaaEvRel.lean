/- What a heap of named blocks says of a world; small laws of it. -/
import Derived.Test.YtcpkieahnkfpoaaEvDef
import Derived.Laws.CopyRow
import Derived.Laws.Tables
import Derived.Deep.MidRow
import Derived.Laws.StructEq
import Derived.Laws.MakeOwn
namespace Go.Proofs.Ytcpkieahnkfpoaa.Ev
open Go Go.RowKit

/-! ### Values -/
theorem renL_map (ρ : Nat → Nat) : ∀ l, renL ρ l = l.map (ren ρ)
  | [] => rfl
  | v :: l => by simp only [renL, List.map_cons, renL_map ρ l]
theorem renA_list (ρ : Nat → Nat) (l : List Value) : renA ρ ⟨l⟩ = ⟨l.map (ren ρ)⟩ := by simp only [renA, renL_map]
theorem ren_clo (ρ : Nat → Nat) {v : Value} (h : clo v = true) : ren ρ v = v := by
  cases v with
  | pointer a => cases a <;> first | rfl | cases h
  | slice a n c => cases a <;> first | rfl | cases h
  | _ => first | rfl | cases h
theorem ren_int (ρ : Nat → Nat) (k : IntKind) (n : Int) : ren ρ (.int k n) = .int k n := rfl
theorem ren_bool (ρ : Nat → Nat) (b : Bool) : ren ρ (.bool b) = .bool b := rfl
theorem ren_agg (ρ : Nat → Nat) (l : List Value) : ren ρ (.agg ⟨l⟩) = .agg ⟨l.map (ren ρ)⟩ := by simp only [ren, renA_list]
theorem ren_tuple (ρ : Nat → Nat) (l : List Value) : ren ρ (.tuple ⟨l⟩) = .tuple ⟨l.map (ren ρ)⟩ := by simp only [ren, renA_list]
theorem ren_func (ρ : Nat → Nat) (f : Fn) (a b : List Value) : ren ρ (.func f ⟨a⟩ ⟨b⟩) = .func f ⟨a.map (ren ρ)⟩ ⟨b.map (ren ρ)⟩ := by simp only [ren, renA_list]
theorem ren_undef (ρ : Nat → Nat) : ren ρ undef = undef := rfl
theorem ren_ptr (ρ : Nat → Nat) (n o : Nat) (s : Option Nat) : ren ρ (.pointer (some ⟨n, o, s⟩)) = .pointer (some ⟨ρ n, o, none⟩) := rfl
theorem cellsV_ren (ρ : Nat → Nat) (v : Value) : cellsV (ren ρ v) = (cellsV v).map (ren ρ) := by
  cases v with
  | agg cs => obtain ⟨l⟩ := cs; simp only [ren_agg, cellsV]
  | pointer a => cases a <;> rfl
  | slice a n c => cases a <;> rfl
  | _ => rfl
theorem cells_eq (v : Value) : v.cells = ⟨cellsV v⟩ := by
  cases v <;> rfl
theorem oneC_ren (ρ : Nat → Nat) (v : Value) : oneC (ren ρ v) = oneC v := by
  cases v with
  | pointer a => cases a <;> rfl
  | slice a n c => cases a <;> rfl
  | _ => rfl
theorem oneC_eq (v : Value) : v.oneCell' = oneC v := by cases v <;> rfl
theorem map_ren_clo (ρ : Nat → Nat) : ∀ {l : List Value}, l.all clo = true → l.map (ren ρ) = l
  | [], _ => rfl
  | v :: l, h => by
    simp only [List.all_cons, Bool.and_eq_true] at h
    rw [List.map_cons, ren_clo ρ h.1, map_ren_clo ρ h.2]

theorem beq_nat {a b : Nat} (h : Nat.beq a b = true) : a = b := Nat.eq_of_beq_eq_true h
theorem bne_nat {a b : Nat} (h : Nat.beq a b = false) : a ≠ b := Nat.ne_of_beq_eq_false h
theorem has_iff {n : Nat} : ∀ {l : List Nat}, has n l = true ↔ n ∈ l
  | [] => by simp [has]
  | m :: l => by
    have ih := has_iff (n := n) (l := l)
    simp only [has, List.mem_cons]
    cases h : Nat.beq m n
    · have := bne_nat h
      simp only [cond_false, ih]
      constructor
      · exact .inr
      · rintro (e | e)
        · exact absurd e.symm this
        · exact e
    · have := beq_nat h
      simp [this]

/-! ### A heap's blocks -/
theorem lookB_upd (n m : Nat) (b : Blk) : ∀ l, lookB m (updB n b l) = if m = n then (lookB n l).map (fun _ => b) else lookB m l
  | [] => by simp [lookB, updB]
  | (k, c) :: r => by
    have ih := lookB_upd n m b r
    simp only [updB]
    cases hk : Nat.beq k n
    · have hkn := bne_nat hk
      simp only [cond_false, lookB, hk]
      cases hm : Nat.beq k m
      · simp only [cond_false, ih]
      · have := beq_nat hm
        subst this
        simp only [cond_true, if_neg hkn]
    · have hkn := beq_nat hk
      subst hkn
      simp only [cond_true, lookB, hk]
      cases hm : Nat.beq k m
      · have hne := bne_nat hm
        simp only [cond_false, if_neg (Ne.symm hne)]
      · have := beq_nat hm
        subst this
        simp
theorem get_set (h : Hp) (n m : Nat) (b : Blk) : (h.set n b).get m = if m = n then (h.get n).map (fun _ => b) else h.get m := lookB_upd n m b h.blks
theorem get_add (h : Hp) (m : Nat) (b : Blk) : (h.add b).get m = if m = h.next then some b else h.get m := by
  simp only [Hp.get, Hp.add, lookB]
  cases hm : Nat.beq h.next m
  · have := bne_nat hm
    simp only [cond_false, if_neg (Ne.symm this)]
  · have := beq_nat hm
    simp [this]
theorem lookB_pick (names : List Nat) (n : Nat) : ∀ l, lookB n (pick' names l) = if has n names then lookB n l else none
  | [] => by simp [pick', lookB]
  | (m, b) :: r => by
    have ih := lookB_pick names n r
    simp only [pick']
    cases hm : has m names
    · simp only [cond_false, ih, lookB]
      cases hk : Nat.beq m n
      · simp
      · have := beq_nat hk
        subst this
        simp [hm]
    · simp only [cond_true, lookB]
      cases hk : Nat.beq m n
      · simp only [cond_false, ih]
      · have := beq_nat hk
        subst this
        simp [hm]
theorem below_mem {n m : Nat} : ∀ {l : List Nat}, m ∈ below n l → m < n ∧ m ∈ l
  | [], h => by simp [below] at h
  | k :: r, h => by
    have ih := below_mem (n := n) (m := m) (l := r)
    simp only [below] at h
    cases hk : Nat.blt k n
    · simp only [hk, cond_false] at h
      exact ⟨(ih h).1, List.mem_cons_of_mem _ (ih h).2⟩
    · simp only [hk, cond_true] at h
      cases hh : has k r
      · simp only [hh, cond_false] at h
        rcases List.mem_cons.1 h with rfl | h
        · exact ⟨Nat.lt_of_succ_le (by simpa [Nat.blt] using hk), List.mem_cons_self⟩
        · exact ⟨(ih h).1, List.mem_cons_of_mem _ (ih h).2⟩
      · simp only [hh, cond_true] at h
        exact ⟨(ih h).1, List.mem_cons_of_mem _ (ih h).2⟩
theorem get_only {h : Hp} {names : List Nat} {n : Nat} {b : Blk} (hg : (h.only names).get n = some b) : n < h.next ∧ n ∈ names ∧ h.get n = some b := by
  have e : (h.only names).get n = if has n (below h.next names) then h.get n else none := lookB_pick _ n h.blks
  rw [e] at hg
  split at hg
  · rename_i hn
    have := below_mem (has_iff.1 hn)
    exact ⟨this.1, this.2, hg⟩
  · cases hg
theorem lookB_del (ns : List Nat) (m : Nat) : ∀ l, lookB m (delB ns l) = if has m ns then none else lookB m l
  | [] => by simp [delB, lookB]
  | (k, b) :: r => by
    have ih := lookB_del ns m r
    simp only [delB]
    cases hk : has k ns
    · simp only [cond_false, lookB]
      cases hm : Nat.beq k m
      · simp only [cond_false, ih]
      · have := beq_nat hm
        subst this
        simp [hk]
    · simp only [cond_true, ih, lookB]
      cases hm : Nat.beq k m
      · simp
      · have := beq_nat hm
        subst this
        simp [hk]
theorem lookB_app (m : Nat) (l' : List (Nat × Blk)) : ∀ l, lookB m (l ++ l') = (lookB m l).or (lookB m l')
  | [] => by simp [lookB]
  | (k, b) :: r => by
    simp only [List.cons_append, lookB]
    cases Nat.beq k m
    · simp only [cond_false, lookB_app m l' r]
    · simp
theorem get_merge (h part : Hp) (wr : List Nat) (m : Nat) : (h.merge part wr).get m = if has m wr then part.get m else h.get m := by
  simp only [Hp.get, Hp.merge, lookB_app, lookB_pick, lookB_del]
  split
  · simp
  · simp
theorem lookB_keep (n : Nat) (names : List Nat) (m : Nat) : ∀ l, lookB m (keepB n names l) = if (Nat.blt m n || has m names) then lookB m l else none
  | [] => by simp [keepB, lookB]
  | (k, b) :: r => by
    have ih := lookB_keep n names m r
    simp only [keepB]
    cases hk : (Nat.blt k n || has k names)
    · simp only [cond_false, ih, lookB]
      cases hm : Nat.beq k m
      · simp
      · have := beq_nat hm
        subst this
        simp [hk]
    · simp only [cond_true, lookB]
      cases hm : Nat.beq k m
      · simp only [cond_false, ih]
      · have := beq_nat hm
        subst this
        simp [hk]
theorem get_sweep {h : Hp} {k n : Nat} {vs : List Value} {b : Blk} (hg : (h.sweep k vs).get n = some b) : h.get n = some b := by
  simp only [Hp.get, Hp.sweep, lookB_keep] at hg ⊢
  split at hg
  · exact hg
  · cases hg
theorem get_sweep_old {h : Hp} {k n : Nat} {vs : List Value} (hn : n < k) : (h.sweep k vs).get n = h.get n := by
  simp only [Hp.get, Hp.sweep, lookB_keep]
  rw [if_pos]
  simp [Nat.blt]
  left
  omega
theorem mem_below {n m : Nat} : ∀ {l : List Nat}, m < n → m ∈ l → m ∈ below n l
  | [], _, h => by simp at h
  | k :: r, hm, h => by
    have ih := mem_below (n := n) (m := m) (l := r) hm
    simp only [below]
    rcases List.mem_cons.1 h with rfl | h
    · have : Nat.blt m n = true := by simp [Nat.blt]; omega
      rw [this, cond_true]
      cases hh : has m r
      · simp
      · exact ih (has_iff.1 hh)
    · cases Nat.blt k n
      · exact ih h
      · simp only [cond_true]
        cases has k r
        · simp [ih h]
        · exact ih h

/-! ### What a block says -/
def Blk.len : Blk → Nat
  | .ints _ l _ => l.length
  | .recs _ l _ => l.length
  | _ => 0
def _root_.Go.Obj.size : Obj → Nat
  | .cells c _ _ => c.size
  | _ => 0
def Blk.rowW : Blk → List Value
  | .ints k l _ => l.map (.int k)
  | .bools l _ => l.map .bool
  | .recs ks l _ => l.flatMap (rowV ks)
  | _ => []
def Blk.tyW : Blk → TypeId
  | .ints _ _ ty => ty
  | .bools _ ty => ty
  | .recs _ _ ty => ty
  | _ => 0
def Blk.isV : Blk → Bool
  | .view _ _ => true
  | _ => false
def Blk.sat (ρ : Nat → Nat) : Blk → Obj → Prop
  | .cells cs ty, o => o = .cells ⟨cs.map (ren ρ)⟩ ty (0, 0)
  | .ints k l ty, o => ∃ r, o = .cells ⟨l.map (.int k) ++ r⟩ ty (0, 0)
  | .bools l ty, o => ∃ r, o = .cells ⟨l.map .bool ++ r⟩ ty (0, 0)
  | .recs ks l ty, o => ∃ r, o = .cells ⟨l.flatMap (rowV ks) ++ r⟩ ty (0, 0)
  | .own b c, o => b.sat ρ o ∧ o.size = ρ c * b.esz ∧ b.len ≤ ρ c ∧ ρ c ≤ maxLen
  | .view off b, o => ∃ cells ty fr, o = .cells cells ty fr ∧ ∀ (j : Nat) v, b.rowW[j]? = some v → cells[off + j]? = some v

def Ag (S : Nat → Prop) (ρ ρ' : Nat → Nat) : Prop := ∀ k, S k → ρ' k = ρ k
theorem Ag.refl (S : Nat → Prop) (ρ : Nat → Nat) : Ag S ρ ρ := fun _ _ => rfl
theorem Ag.trans {S S' : Nat → Prop} {ρ ρ1 ρ2 : Nat → Nat} (h : Ag S ρ ρ1) (hs : ∀ k, S k → S' k) (h' : Ag S' ρ1 ρ2) : Ag S ρ ρ2 :=
  fun k hk => (h' k (hs k hk)).trans (h k hk)
/-- The value u is v, whatever the names that are not yet told come to. -/
def VR (S : Nat → Prop) (ρ : Nat → Nat) (v u : Value) : Prop := ∀ ρ', Ag S ρ ρ' → u = ren ρ' v
def VRL (S : Nat → Prop) (ρ : Nat → Nat) (l : List Value) (a : List Value) : Prop := ∀ ρ', Ag S ρ ρ' → a = l.map (ren ρ')
theorem VR.self {S : Nat → Prop} {ρ : Nat → Nat} {v u : Value} (h : VR S ρ v u) : u = ren ρ v := h ρ (Ag.refl _ _)
theorem VR.up {S S' : Nat → Prop} {ρ ρ1 : Nat → Nat} {v u : Value} (h : VR S ρ v u) (hs : ∀ k, S k → S' k) (ha : Ag S ρ ρ1) : VR S' ρ1 v u :=
  fun ρ' h' => h ρ' (ha.trans hs h')
theorem VRL.up {S S' : Nat → Prop} {ρ ρ1 : Nat → Nat} {v u : List Value} (h : VRL S ρ v u) (hs : ∀ k, S k → S' k) (ha : Ag S ρ ρ1) : VRL S' ρ1 v u :=
  fun ρ' h' => h ρ' (ha.trans hs h')
theorem VRL.self {S : Nat → Prop} {ρ : Nat → Nat} {v u : List Value} (h : VRL S ρ v u) : u = v.map (ren ρ) := h ρ (Ag.refl _ _)

def isDead : Value → Bool
  | .string _ => true
  | _ => false
/-- As VR, of a value of which something is known. -/
def VRd (S : Nat → Prop) (ρ : Nat → Nat) (v u : Value) : Prop := isDead v = true ∨ VR S ρ v u
theorem VRd.up {S S' : Nat → Prop} {ρ ρ1 : Nat → Nat} {v u : Value} (h : VRd S ρ v u) (hs : ∀ k, S k → S' k) (ha : Ag S ρ ρ1) : VRd S' ρ1 v u :=
  h.imp_right fun h => h.up hs ha
theorem VRd.bool {S : Nat → Prop} {ρ : Nat → Nat} {b : Bool} {u : Value} (h : VRd S ρ (.bool b) u) : u = .bool b := by
  rcases h with h | h
  · cases h
  · exact h.self
theorem aval_tmp {tm : List Value} {t : Nat} {v : Value} (h : aval tm (.tmp t) = some v) : tm.getD t undef = v ∧ isDead v = false := by
  simp only [aval] at h
  split at h
  · cases h
  · rename_i hne
    obtain rfl := Option.some.inj h
    refine ⟨rfl, ?_⟩
    cases hv : tm.getD t undef with
    | string s => exact absurd hv (hne s)
    | _ => rfl

structure HR (S : Nat → Prop) (ρ : Nat → Nat) (hp : Hp) (w : World) : Prop where
  sat : ∀ ρ', Ag S ρ ρ' → ∀ n b, hp.get n = some b → ∃ o, w.heap[ρ n]? = some o ∧ b.sat ρ' o
  dom : ∀ n b, hp.get n = some b → S n
  inj : ∀ n m b c, hp.get n = some b → hp.get m = some c → ρ n = ρ m → n = m ∨ (b.isV = true ∧ c.isV = true)

/-- What else stays: all blocks that the heap does not name. -/
structure FR (ρ ρ1 : Nat → Nat) (hp hp1 : Hp) (w w1 : World) : Prop where
  os : w1.os = w.os
  tape : w1.tape = w.tape
  output : w1.output = w.output
  size : w.heap.size ≤ w1.heap.size
  old : ∀ k, k < w.heap.size → (∀ n b, hp.get n = some b → b.isV = false → ρ n ≠ k) → w1.heap[k]? = w.heap[k]?
  new : ∀ n b, hp1.get n = some b → (∃ m c, hp.get m = some c ∧ c.isV = b.isV ∧ ρ1 n = ρ m) ∨ w.heap.size ≤ ρ1 n

theorem HR.up {S S' : Nat → Prop} {ρ : Nat → Nat} {hp : Hp} {w : World} (h : HR S ρ hp w) (hs : ∀ k, S k → S' k) : HR S' ρ hp w :=
  ⟨fun ρ' ha => h.sat ρ' (fun k hk => ha k (hs k hk)), fun n b hb => hs _ (h.dom n b hb), h.inj⟩
theorem HR.lt {S : Nat → Prop} {ρ : Nat → Nat} {hp : Hp} {w : World} (h : HR S ρ hp w) {n : Nat} {b : Blk} (hg : hp.get n = some b) : ρ n < w.heap.size := by
  obtain ⟨o, ho, _⟩ := h.sat ρ (Ag.refl _ _) n b hg
  exact (Array.getElem?_eq_some_iff.1 ho).1
theorem HR.less {S : Nat → Prop} {ρ : Nat → Nat} {hp hp' : Hp} {w : World} (h : HR S ρ hp w) (hg : ∀ n b, hp'.get n = some b → hp.get n = some b) : HR S ρ hp' w :=
  ⟨fun ρ' ha n b hb => h.sat ρ' ha n b (hg n b hb), fun n b hb => h.dom n b (hg n b hb), fun n m b c hb hc => h.inj n m b c (hg n b hb) (hg m c hc)⟩
theorem FR.refl (ρ : Nat → Nat) (hp : Hp) (w : World) : FR ρ ρ hp hp w w :=
  ⟨rfl, rfl, rfl, Nat.le_refl _, fun _ _ _ => rfl, fun n b h => .inl ⟨n, b, h, rfl, rfl⟩⟩
theorem FR.trans {ρ ρ1 ρ2 : Nat → Nat} {hp hp1 hp2 : Hp} {w w1 w2 : World} (h : FR ρ ρ1 hp hp1 w w1) (h' : FR ρ1 ρ2 hp1 hp2 w1 w2) : FR ρ ρ2 hp hp2 w w2 where
  os := h'.os.trans h.os
  tape := h'.tape.trans h.tape
  output := h'.output.trans h.output
  size := Nat.le_trans h.size h'.size
  old k hk hn := by
    rw [← h.old k hk hn]
    refine h'.old k (Nat.lt_of_lt_of_le hk h.size) fun n b hb hv he => ?_
    rcases h.new n b hb with ⟨m, c, hm, hc, e⟩ | e
    · exact hn m c hm (hc.trans hv) (e.symm.trans he)
    · omega
  new n b hb := by
    rcases h'.new n b hb with ⟨m, c, hm, hv, e⟩ | e
    · rcases h.new m c hm with ⟨m', c', hm', hv', e'⟩ | e'
      · exact .inl ⟨m', c', hm', hv'.trans hv, e.trans e'⟩
      · exact .inr (by omega)
    · exact .inr (Nat.le_trans h.size e)
theorem FR.less {ρ ρ1 : Nat → Nat} {hp hp1 hp2 : Hp} {w w1 : World} (h : FR ρ ρ1 hp hp1 w w1) (hg : ∀ n b, hp2.get n = some b → hp1.get n = some b) : FR ρ ρ1 hp hp2 w w1 :=
  ⟨h.os, h.tape, h.output, h.size, h.old, fun n b hb => h.new n b (hg n b hb)⟩

/-- The names that are told behind something that made some. -/
def SN (S : Nat → Prop) (hp hp1 : Hp) (k : Nat) : Prop := S k ∨ (hp.next ≤ k ∧ k < hp1.next)
def NF (S : Nat → Prop) (hp hp1 : Hp) : Prop := ∀ k, hp.next ≤ k → k < hp1.next → ¬ S k
def Res (S : Nat → Prop) (ρ : Nat → Nat) (hp : Hp) (w : World) (v : Value) (hp1 : Hp) (u : Value) (w1 : World) : Prop :=
  ∃ ρ1, Ag S ρ ρ1 ∧ HR (SN S hp hp1) ρ1 hp1 w1 ∧ VR (SN S hp hp1) ρ1 v u ∧ FR ρ ρ1 hp hp1 w w1

theorem SN.left {S : Nat → Prop} {hp hp1 : Hp} (k : Nat) (h : S k) : SN S hp hp1 k := .inl h
theorem Res.same {S : Nat → Prop} {ρ : Nat → Nat} {hp : Hp} {w : World} {v u : Value} (hH : HR S ρ hp w) (hv : VR S ρ v u) : Res S ρ hp w v hp u w :=
  ⟨ρ, Ag.refl _ _, hH.up SN.left, hv.up SN.left (Ag.refl _ _), FR.refl _ _ _⟩
/-- A draw turns no block. -/
theorem HR.drew {S : Nat → Prop} {ρ : Nat → Nat} {hp : Hp} {w : World} (h : HR S ρ hp w) : HR S ρ hp { w with drawn := w.drawn + 1 } := ⟨h.sat, h.dom, h.inj⟩

/-- A new block. -/
theorem Res.alloc {S : Nat → Prop} {ρ : Nat → Nat} {hp : Hp} {w : World} {b : Blk} {o : Obj} (hH : HR S ρ hp w) (hF : NF S hp (hp.add b))
    (hb : ∀ ρ', Ag S ρ ρ' → b.sat ρ' o) {v u : Value} (hv : ∀ ρ', Ag S ρ ρ' → ρ' hp.next = w.heap.size → u = ren ρ' v) :
    Res S ρ hp w v (hp.add b) u (w.alloc o) := by
  have hn : ¬ S hp.next := hF hp.next (Nat.le_refl _) (by simp [Hp.add])
  let ρ1 : Nat → Nat := fun k => if k = hp.next then w.heap.size else ρ k
  have h1 : Ag S ρ ρ1 := fun k hk => if_neg (fun (e : k = hp.next) => hn (e ▸ hk))
  have hnew : ρ1 hp.next = w.heap.size := by show (if _ then _ else _) = _; rw [if_pos rfl]
  have hSN : SN S hp (hp.add b) hp.next := .inr ⟨Nat.le_refl _, by simp [Hp.add]⟩
  have hold : ∀ m, m ≠ hp.next → ρ1 m = ρ m := fun m hm => by show (if _ then _ else _) = _; rw [if_neg hm]
  refine ⟨ρ1, h1, ⟨fun ρ' ha m c hc => ?_, fun m c hc => ?_, fun m m' c c' hc hc' he => ?_⟩, fun ρ' ha => ?_, ⟨rfl, rfl, rfl, by simp, fun k hk _ => Below.heap_alloc _ _ _ hk, fun m c hc => ?_⟩⟩
  · rw [get_add] at hc
    have haS : Ag S ρ ρ' := h1.trans SN.left ha
    split at hc
    · rename_i e; subst e
      obtain rfl := Option.some.inj hc
      refine ⟨o, ?_, hb ρ' haS⟩
      rw [hnew]
      show (w.heap.push o)[w.heap.size]? = some o
      simp
    · rename_i e
      obtain ⟨o', ho, hs⟩ := hH.sat ρ' haS m c hc
      refine ⟨o', ?_, hs⟩
      rw [hold m e, Below.heap_alloc _ _ _ (hH.lt hc)]
      exact ho
  · rw [get_add] at hc
    split at hc
    · rename_i e; subst e; exact hSN
    · exact .inl (hH.dom m c hc)
  · rw [get_add] at hc hc'
    split at hc <;> split at hc'
    · rename_i e e'; exact .inl (by rw [e, e'])
    · rename_i e e'
      subst e
      rw [hnew, hold _ e'] at he
      have := hH.lt hc'
      omega
    · rename_i e e'
      subst e'
      rw [hnew, hold _ e] at he
      have := hH.lt hc
      omega
    · rename_i e e'
      rw [hold _ e, hold _ e'] at he
      exact hH.inj m m' c c' hc hc' he
  · exact hv ρ' (h1.trans SN.left ha) ((ha hp.next hSN).trans hnew)
  · rw [get_add] at hc
    split at hc
    · rename_i e; subst e
      obtain rfl := Option.some.inj hc
      exact .inr (by rw [hnew]; exact Nat.le_refl _)
    · rename_i e; exact .inl ⟨m, c, hc, rfl, hold m e⟩

/-- A block that is written to. -/
theorem Res.set {S : Nat → Prop} {ρ : Nat → Nat} {hp : Hp} {w w1 : World} {n : Nat} {b b' : Blk} {o : Obj} (hnv : b.isV = false) (hnv' : b'.isV = false) (hH : HR S ρ hp w) (hg : hp.get n = some b)
    (h1 : w1.os = w.os) (h2 : w1.tape = w.tape) (h3 : w1.output = w.output) (h4 : w1.heap.size = w.heap.size) (h5 : w1.heap[ρ n]? = some o)
    (h6 : ∀ k, k ≠ ρ n → w1.heap[k]? = w.heap[k]?) (hb : ∀ ρ', Ag S ρ ρ' → b'.sat ρ' o) {v u : Value} (hv : VR S ρ v u) :
    Res S ρ hp w v (hp.set n b') u w1 := by
  have hget : ∀ m c, (hp.set n b').get m = some c → ∃ c', hp.get m = some c' ∧ c'.isV = c.isV := fun m c hc => by
    rw [get_set] at hc
    split at hc
    · rename_i e; subst e
      rw [hg] at hc
      obtain rfl := Option.some.inj hc
      exact ⟨b, hg, by rw [hnv, hnv']⟩
    · exact ⟨c, hc, rfl⟩
  refine ⟨ρ, Ag.refl _ _, ⟨fun ρ' ha m c hc => ?_, fun m c hc => ?_, fun m m' c c' hc hc' he => ?_⟩, hv.up SN.left (Ag.refl _ _), ⟨h1, h2, h3, Nat.le_of_eq h4.symm, fun k _ hk => h6 k (fun e => hk n b hg hnv e.symm), fun m c hc => ?_⟩⟩
  · have haS : Ag S ρ ρ' := fun k hk => ha k (.inl hk)
    rw [get_set] at hc
    split at hc
    · rename_i e; subst e
      rw [hg] at hc
      obtain rfl := Option.some.inj hc
      exact ⟨o, h5, hb ρ' haS⟩
    · rename_i e
      obtain ⟨o', ho, hs⟩ := hH.sat ρ' haS m c hc
      refine ⟨o', ?_, hs⟩
      rw [h6 _ (fun he => by
        rcases hH.inj m n c b hc hg he with h | ⟨_, h⟩
        · exact e h
        · rw [hnv] at h; cases h)]
      exact ho
  · obtain ⟨c', hc', _⟩ := hget m c hc
    exact .inl (hH.dom m c' hc')
  · obtain ⟨d, hd, hv⟩ := hget m c hc
    obtain ⟨d', hd', hv'⟩ := hget m' c' hc'
    rw [← hv, ← hv']
    exact hH.inj m m' d d' hd hd' he
  · obtain ⟨d, hd, hv⟩ := hget m c hc
    exact .inl ⟨m, d, hd, hv, rfl⟩

theorem Res.setRow {S : Nat → Prop} {ρ : Nat → Nat} {hp : Hp} {w : World} {n : Nat} {b b' : Blk} {old new : Array Value} {ty : TypeId} (hnv : b.isV = false) (hnv' : b'.isV = false) (hH : HR S ρ hp w) (hg : hp.get n = some b)
    (ho : w.heap[ρ n]? = some (.cells old ty (0, 0))) (hb : ∀ ρ', Ag S ρ ρ' → b'.sat ρ' (.cells new ty (0, 0))) {v u : Value} (hv : VR S ρ v u) : Res S ρ hp w v (hp.set n b') u (w.setRow (ρ n) new) :=
  Res.set (w1 := w.setRow (ρ n) new) hnv hnv' hH hg rfl rfl rfl (setRow_size _ _ _) (setRow_heap w (ρ n) old new ty (0, 0) ho) (fun k hk => setRow_other w (ρ n) k new hk) hb hv

/-- What came behind: two results, one behind the other. -/
theorem Res.trans {S : Nat → Prop} {ρ : Nat → Nat} {hp hp1 hp2 : Hp} {w w1 w2 : World} {v' u' : Value} {ρ1 : Nat → Nat} (hle : hp.next ≤ hp1.next) (hle' : hp1.next ≤ hp2.next)
    (h1 : Ag S ρ ρ1) (h2 : FR ρ ρ1 hp hp1 w w1) (h : Res (SN S hp hp1) ρ1 hp1 w1 v' hp2 u' w2) : Res S ρ hp w v' hp2 u' w2 := by
  obtain ⟨ρ2, a, b, c, d⟩ := h
  have hs : ∀ k, SN (SN S hp hp1) hp1 hp2 k → SN S hp hp2 k := fun k hk => by
    rcases hk with (hk | hk) | hk
    · exact .inl hk
    · exact .inr ⟨hk.1, by omega⟩
    · exact .inr ⟨by omega, hk.2⟩
  exact ⟨ρ2, h1.trans SN.left a, b.up hs, c.up hs (Ag.refl _ _), h2.trans d⟩
end Go.Proofs.Ytcpkieahnkfpoaa.Ev
