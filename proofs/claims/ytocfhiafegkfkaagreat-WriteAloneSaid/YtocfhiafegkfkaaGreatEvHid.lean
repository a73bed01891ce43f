/- Blocks that are there or not: heaps that tell of them by what they hold; objects that are hidden behind them. -/
import Derived.Test.YtocfhiafegkfkaaGreatEvAlias2
namespace Go.Proofs.YtocfhiafegkfkaaGreat.Ev
open Go Go.RowKit

def nthN : List Nat → Nat → Nat
  | [], _ => 0
  | n :: _, 0 => n
  | _ :: r, i + 1 => nthN r i
theorem nthR_nth {ρ : Nat → Nat} : ∀ {ns : List Nat} {i : Nat}, i < ns.length → nthR ρ ns i = ρ (nthN ns i)
  | [], _, h => absurd h (Nat.not_lt_zero _)
  | _ :: _, 0, _ => rfl
  | _ :: r, _ + 1, h => nthR_nth (ns := r) (Nat.lt_of_succ_lt_succ h)
def HB.nm : HB → List Nat
  | .cells cs _ => nmL cs
  | .own _ _ _ c => [c]
/-- The block that it comes to. -/
def HB.blk (ns : List Nat) : HB → Blk
  | .cells cs ty => .cells (rnL (nthN ns) cs) ty
  | .own k l ty c => .own (.ints k l ty) (nthN ns c)
theorem HB.sat_blk {ρ : Nat → Nat} {ns : List Nat} {hb : HB} {o : Obj} (h : ∀ k ∈ hb.nm, k < ns.length) : (hb.blk ns).sat ρ o ↔ hb.sat (nthR ρ ns) o := by
  cases hb with
  | cells cs ty =>
    simp only [HB.blk, Blk.sat, HB.sat]
    have e : (rnL (nthN ns) cs).map (ren ρ) = cs.map (ren (nthR ρ ns)) := by
      rw [← renL_map, renL_rn, ← renL_map]
      exact renL_congr cs fun k hk => (nthR_nth (h k hk)).symm
    rw [e]
  | own k l ty c =>
    have e := nthR_nth (ρ := ρ) (h c (List.mem_singleton.2 rfl))
    simp only [HB.blk, Blk.sat, HB.sat, Blk.esz, Blk.len, e]
theorem HB.blk_isV (ns : List Nat) (hb : HB) : (hb.blk ns).isV = false := by cases hb <;> rfl
def xB : List (Nat × Blk) → List (Nat × Blk)
  | [] => []
  | (n, .opt ns f h) :: r => match f h with
    | some hb => (n, hb.blk ns) :: xB r
    | none => xB r
  | (n, b) :: r => (n, b) :: xB r
def okX : List (Nat × Blk) → Bool
  | [] => true
  | (_, .opt ns f h) :: r => match f h with
    | some hb => bif allLt ns.length hb.nm then okX r else false
    | none => okX r
  | (_, _) :: r => okX r
def Hp.xp (h : Hp) : Hp := ⟨xB h.blks, h.next, h.log⟩
/-- Two blocks that say the same. -/
def SameB (b c : Blk) : Prop := b.pres = true ∧ c.pres = true ∧ b.isV = c.isV ∧ ∀ ρ o, b.sat ρ o ↔ c.sat ρ o
theorem SameB.refl {b : Blk} (h : b.pres = true) : SameB b b := ⟨h, h, rfl, fun _ _ => Iff.rfl⟩
theorem xB_keys {n : Nat} : ∀ {l : List (Nat × Blk)} {b : Blk}, lookB n (xB l) = some b → n ∈ keys l
  | [], b, h => by simp [xB, lookB] at h
  | (m, c) :: r, b, h => by
    simp only [keys, List.mem_cons]
    have plain : lookB n ((m, c) :: xB r) = some b → n = m ∨ n ∈ keys r := fun h => by
      simp only [lookB] at h
      cases hm : Nat.beq m n
      · simp only [hm, cond_false] at h
        exact .inr (xB_keys h)
      · exact .inl (beq_nat hm).symm
    cases c with
    | opt ns f h' =>
      simp only [xB] at h
      split at h
      · simp only [lookB] at h
        cases hm : Nat.beq m n
        · simp only [hm, cond_false] at h
          exact .inr (xB_keys h)
        · exact .inl (beq_nat hm).symm
      · exact .inr (xB_keys h)
    | _ => exact plain h
theorem keysIn_cons {m0 n : Nat} {b : Blk} {r : List (Nat × Blk)} (h : keysIn m0 ((n, b) :: r) = true) : n < m0 ∧ n ∉ keys r ∧ keysIn m0 r = true := by
  simp only [keysIn] at h
  cases hn : Nat.blt n m0
  · simp [hn] at h
  simp only [hn, cond_true] at h
  cases hk : has n (keys r)
  · simp only [hk, cond_false] at h
    have hnot : n ∉ keys r := fun hx => by
      rw [has_iff.2 hx] at hk
      cases hk
    exact ⟨Nat.lt_of_succ_le (by simpa [Nat.blt] using hn), hnot, h⟩
  · simp [hk] at h
theorem xB_get {m0 n : Nat} : ∀ {l : List (Nat × Blk)}, keysIn m0 l = true → okX l = true → (∀ b, lookB n (xB l) = some b → b.pres = true → ∃ c, lookB n l = some c ∧ SameB b c) ∧ (∀ c, lookB n l = some c → c.pres = true → ∃ b, lookB n (xB l) = some b ∧ SameB b c)
  | [], _, _ => ⟨fun b h => by simp [xB, lookB] at h, fun b h => by simp [lookB] at h⟩
  | (m, d) :: r, hk, hx => by
    obtain ⟨_, hnot, hk'⟩ := keysIn_cons hk
    have plain : okX r = true → (∀ b, lookB n ((m, d) :: xB r) = some b → b.pres = true → ∃ c, lookB n ((m, d) :: r) = some c ∧ SameB b c) ∧ (∀ c, lookB n ((m, d) :: r) = some c → c.pres = true → ∃ b, lookB n ((m, d) :: xB r) = some b ∧ SameB b c) := fun hx => by
      obtain ⟨i1, i2⟩ := xB_get (n := n) hk' hx
      simp only [lookB]
      cases hm : Nat.beq m n
      · exact ⟨i1, i2⟩
      · exact ⟨fun b h hp => ⟨b, h, SameB.refl hp⟩, fun b h hp => ⟨b, h, SameB.refl hp⟩⟩
    cases d with
    | opt ns f h' =>
      simp only [okX] at hx
      simp only [xB]
      cases hf : f h' with
      | some hb =>
        rw [hf] at hx
        simp only at hx
        cases hl : allLt ns.length hb.nm
        · simp [hl] at hx
        simp only [hl, cond_true] at hx
        obtain ⟨i1, i2⟩ := xB_get (n := n) hk' hx
        have hS : SameB (hb.blk ns) (.opt ns f h') := by
          refine ⟨Blk.pres_of (HB.blk_isV _ _), by simp [Blk.pres, hf], by rw [HB.blk_isV]; simp [Blk.isV, hf], fun ρ o => ?_⟩
          simp only [Blk.sat, hf]
          exact HB.sat_blk fun k hk => allLt_mem hl k hk
        simp only [lookB]
        cases hm : Nat.beq m n
        · exact ⟨i1, i2⟩
        · exact ⟨fun b h hp => ⟨_, rfl, by obtain rfl := Option.some.inj h; exact hS⟩, fun b h hp => ⟨_, rfl, by obtain rfl := Option.some.inj h; exact hS⟩⟩
      | none =>
        rw [hf] at hx
        obtain ⟨i1, i2⟩ := xB_get (n := n) hk' hx
        simp only [lookB]
        cases hm : Nat.beq m n
        · exact ⟨i1, i2⟩
        · obtain rfl := beq_nat hm
          exact ⟨fun b h hp => absurd (xB_keys h) hnot, fun b h hp => by
            obtain rfl := Option.some.inj h
            simp [Blk.pres, hf] at hp⟩
    | _ => exact plain hx
theorem HR.xp {S : Nat → Prop} {ρ : Nat → Nat} {hp : Hp} {w : World} {m0 : Nat} (h : HR S ρ hp w) (hk : keysIn m0 hp.blks = true) (hx : okX hp.blks = true) : HR S ρ hp.xp w :=
  ⟨fun ρ' ha n b hb hp => by
    obtain ⟨c, hc, hS⟩ := (xB_get hk hx).1 b hb hp
    obtain ⟨o, ho, hs⟩ := h.sat ρ' ha n c hc hS.2.1
    exact ⟨o, ho, (hS.2.2.2 ρ' o).2 hs⟩, fun n b hb => by
    obtain ⟨c, hc⟩ := keys_get (xB_keys hb)
    exact h.dom n c hc, fun n m b c hb hc hbp hcp he => by
    obtain ⟨b', hb', hS⟩ := (xB_get hk hx).1 b hb hbp
    obtain ⟨c', hc', hS'⟩ := (xB_get hk hx).1 c hc hcp
    rw [hS.2.2.1, hS'.2.2.1]
    exact h.inj n m b' c' hb' hc' hS.2.1 hS'.2.1 he⟩
theorem HR.unxp {ρ : Nat → Nat} {hp : Hp} {w : World} {m0 : Nat} (h : HR (fun k => k < m0) ρ hp.xp w) (hk : keysIn m0 hp.blks = true) (hx : okX hp.blks = true) : HR (fun k => k < m0) ρ hp w :=
  ⟨fun ρ' ha n b hb hp => by
    obtain ⟨c, hc, hS⟩ := (xB_get hk hx).2 b hb hp
    obtain ⟨o, ho, hs⟩ := h.sat ρ' ha n c hc hS.1
    exact ⟨o, ho, (hS.2.2.2 ρ' o).1 hs⟩, fun n b hb => (keysIn_lt hk n b (lookB_mem hb)).1, fun n m b c hb hc hbp hcp he => by
    obtain ⟨b', hb', hS⟩ := (xB_get hk hx).2 b hb hbp
    obtain ⟨c', hc', hS'⟩ := (xB_get hk hx).2 c hc hcp
    rw [← hS.2.2.1, ← hS'.2.2.1]
    exact h.inj n m b' c' hb' hc' hS.1 hS'.1 he⟩
/-- A call that is told of the blocks themselves is told of those that are there or not. -/
theorem CallC.xp {P : Program} {f : FuncId} {args : List Value} {hp hp1 : Hp} {v : Value} (h : CallC P f args hp.xp v hp1.xp) (hk : keysIn hp.next hp.blks = true) (hk1 : keysIn hp1.next hp1.blks = true) (hx : okX hp.blks = true) (hx1 : okX hp1.blks = true) : CallC P f args hp v hp1 := by
  refine ⟨h.1, fun ρ w cargs ha hH => (h.2 ρ w cargs ha (hH.xp hk hx)).mono fun e w1 he => ?_⟩
  obtain ⟨u, ρ1, rfl, hag, hH1, hV, hF⟩ := he
  refine ⟨u, ρ1, rfl, hag, HR.unxp hH1 hk1 hx1, hV, ⟨hF.os, hF.tape, hF.output, hF.size, fun k hk' hn => hF.old k hk' fun n b hb hv => ?_, fun n b hb hbp => ?_⟩⟩
  · obtain ⟨c, hc, hS⟩ := (xB_get hk hx).1 b hb (Blk.pres_of hv)
    exact hn n c hc (by rw [← hS.2.2.1]; exact hv)
  · obtain ⟨b', hb', hS⟩ := (xB_get hk1 hx1).2 b hb hbp
    rcases hF.new n b' hb' hS.1 with ⟨m, c, hm, hcp, hv, e⟩ | e
    · obtain ⟨c', hc', hS'⟩ := (xB_get hk hx).1 c hm hcp
      exact .inl ⟨m, c', hc', hS'.2.1, by rw [← hS'.2.2.1, hv, hS.2.2.1], e⟩
    · exact .inr e

/-- What a call leaves, under other names; what is no more told is left out. -/
theorem CallC.ren {P : Program} {f : FuncId} {args : List Value} {hp hp1 hp2 : Hp} {v v2 : Value} (h : CallC P f args hp v hp1) (L : List Nat) (hv : v = rn (fun k => L.getD k 0) v2) (hbnd : allLt hp2.next (nm v2 ++ tellers.tellB hp2.blks) = true) (hkeys : keysIn hp2.next hp2.blks = true)
    (hin : laysIn hp1 (fun k => L.getD k 0) hp2.blks) (hd : vdup L hp2.blks = true) (hid : ∀ k, k < hp.next → L.getD k 0 = k) : CallC P f args hp v2 hp2 := by
  refine ⟨h.1, fun ρ w cargs ha hH => (h.2 ρ w cargs ha hH).mono fun e w1 he => ?_⟩
  obtain ⟨u, ρ1, rfl, hag, hH1, hV, hF⟩ := he
  have hb : ∀ n b, hp2.get n = some b → n < hp2.next ∧ hp1.get (L.getD n 0) = some (b.rn fun k => L.getD k 0) ∧ ∀ k ∈ b.nm, k < hp2.next := fun n b h => by
    have hm := lookB_mem (show lookB n hp2.blks = some b from h)
    exact ⟨(keysIn_lt hkeys n b hm).1, laysIn_get hin n b h, fun k hk => allLt_mem hbnd k (List.mem_append.2 (.inr (tellB_blk hm hk)))⟩
  refine ⟨u, fun k => ρ1 (L.getD k 0), rfl, fun k hk => ?_, ⟨fun ρ' ha' n b h hbp => ?_, fun n b h => (hb n b h).1, fun n m b c h1 h2 hbp hcp he => ?_⟩, fun ρ' ha' => ?_, ⟨hF.os, hF.tape, hF.output, hF.size, hF.old, fun n b h hbp => ?_⟩⟩
  · simp only [hid k hk]
    exact hag k hk
  · obtain ⟨_, h2, h3⟩ := hb n b h
    obtain ⟨o, ho, hs⟩ := hH1.sat ρ1 (Ag.refl _ _) _ _ h2 (by rw [Blk.rn_pres]; exact hbp)
    exact ⟨o, ho, Blk.sat_congr (ρ := fun k => ρ1 (L.getD k 0)) (fun k hk => ha' k (h3 k hk)) (Blk.sat_rn.1 hs)⟩
  · obtain ⟨_, q1, _⟩ := hb n b h1
    obtain ⟨_, q2, _⟩ := hb m c h2
    rcases hH1.inj _ _ _ _ q1 q2 (by rw [Blk.rn_pres]; exact hbp) (by rw [Blk.rn_pres]; exact hcp) he with e | e
    · rcases vdup_mem hd n m b c (lookB_mem h1) (lookB_mem h2) e with e' | e'
      · injection e' with e' _
        exact .inl e'
      · exact .inr e'
    · rw [Blk.rn_isV, Blk.rn_isV] at e
      exact .inr e
  · rw [hV.self, hv, ren_rn]
    exact ren_congr v2 fun k hk => (ha' k (allLt_mem hbnd k (List.mem_append.2 (.inl hk)))).symm
  · obtain ⟨_, h2, _⟩ := hb n b h
    rcases hF.new _ _ h2 (by rw [Blk.rn_pres]; exact hbp) with ⟨m, c, hm, hcp, hv', e⟩ | e
    · exact .inl ⟨m, c, hm, hcp, by rw [hv', Blk.rn_isV], e⟩
    · exact .inr e

/-! ### An object that is hidden -/
def rng : Nat → Nat → List Nat
  | _, 0 => []
  | a, n + 1 => a :: rng (a + 1) n
def optL (F : Nat → Hid → Option HB) (ns : List Nat) (h : Hid) : List Nat → Nat → List (Nat × Blk)
  | [], _ => []
  | n :: r, i => (n, .opt ns (F i) h) :: optL F ns h r (i + 1)
theorem rng_length : ∀ (n a : Nat), (rng a n).length = n
  | 0, _ => rfl
  | n + 1, a => by simp [rng, rng_length n]
theorem rng_mem {x : Nat} : ∀ {n a : Nat}, x ∈ rng a n ↔ a ≤ x ∧ x < a + n
  | 0, a => by simp [rng]
  | n + 1, a => by simp only [rng, List.mem_cons, rng_mem (n := n)]; omega
theorem rng_get : ∀ {n a i : Nat}, i < n → (rng a n)[i]? = some (a + i)
  | 0, _, i, h => absurd h (Nat.not_lt_zero i)
  | n + 1, a, 0, _ => by simp [rng]
  | n + 1, a, i + 1, h => by
    simp only [rng, List.getElem?_cons_succ]
    rw [rng_get (n := n) (by omega)]
    congr 1
    omega
theorem optL_keys (F : Nat → Hid → Option HB) (ns : List Nat) (h : Hid) : ∀ (l : List Nat) (i : Nat), keys (optL F ns h l i) = l
  | [], _ => rfl
  | n :: r, i => by simp only [optL, keys, optL_keys F ns h r]
theorem optL_lay (σ : Nat → Nat) (F : Nat → Hid → Option HB) (ns : List Nat) (h : Hid) : ∀ (l : List Nat) (i : Nat), layB σ (optL F ns h l i) = optL F (mapN σ ns) h (mapN σ l) i
  | [], _ => rfl
  | n :: r, i => by simp only [optL, layB, mapN, optL_lay σ F ns h r, Blk.rn]
theorem optL_look {F : Nat → Hid → Option HB} {ns : List Nat} {h : Hid} {n : Nat} {b : Blk} : ∀ {l : List Nat} {i : Nat}, lookB n (optL F ns h l i) = some b → ∃ j, l[j]? = some n ∧ b = .opt ns (F (i + j)) h
  | [], _, hb => by simp [optL, lookB] at hb
  | m :: r, i, hb => by
    simp only [optL, lookB] at hb
    cases hm : Nat.beq m n
    · simp only [hm, cond_false] at hb
      obtain ⟨j, h1, h2⟩ := optL_look hb
      exact ⟨j + 1, by simpa using h1, by rw [h2]; congr 2; omega⟩
    · simp only [hm, cond_true, Option.some.injEq] at hb
      exact ⟨0, by simp [beq_nat hm], hb.symm⟩
theorem layB_app (σ : Nat → Nat) (l' : List (Nat × Blk)) : ∀ l, layB σ (l ++ l') = layB σ l ++ layB σ l'
  | [] => rfl
  | (n, b) :: r => by simp only [List.cons_append, layB, layB_app σ l' r]
theorem keys_app (l' : List (Nat × Blk)) : ∀ l, keys (l ++ l') = keys l ++ keys l'
  | [] => rfl
  | (n, b) :: r => by simp only [List.cons_append, keys, keys_app l' r]
theorem pick_all {wr : List Nat} : ∀ {l : List (Nat × Blk)}, (∀ n ∈ keys l, n ∈ wr) → pick' wr l = l
  | [], _ => rfl
  | (n, b) :: r, h => by
    simp only [keys, List.mem_cons, forall_eq_or_imp] at h
    simp only [pick', has_iff.2 h.1, cond_true, pick_all h.2]
theorem below_rng {m : Nat} : ∀ {n a : Nat}, a + n ≤ m → below m (rng a n) = rng a n
  | 0, _, _ => rfl
  | n + 1, a, h => by
    have h1 : Nat.blt a m = true := by simp [Nat.blt]; omega
    have h2 : has a (rng (a + 1) n) = false := by
      cases e : has a (rng (a + 1) n)
      · rfl
      · have := rng_mem.1 (has_iff.1 e)
        omega
    simp only [rng, below, h1, h2, cond_true, cond_false, below_rng (m := m) (n := n) (a := a + 1) (show a + 1 + n ≤ m by omega)]
theorem below_rng2 {m : Nat} : ∀ {n a : Nat}, m ≤ a → below m (rng a n) = []
  | 0, _, _ => rfl
  | n + 1, a, h => by
    have h1 : Nat.blt a m = false := by
      cases e : Nat.blt a m
      · rfl
      · simp [Nat.blt] at e; omega
    simp only [rng, below, h1, cond_false, below_rng2 (m := m) (n := n) (a := a + 1) (by omega)]
theorem below_rng3 {m : Nat} : ∀ {n a k : Nat}, a + n = m → below m (rng a (n + k)) = rng a n
  | 0, a, k, h => by
    rw [Nat.zero_add]
    exact below_rng2 (by omega)
  | n + 1, a, k, h => by
    have h1 : Nat.blt a m = true := by simp [Nat.blt]; omega
    have h2 : has a (rng (a + 1) (n + k)) = false := by
      cases e : has a (rng (a + 1) (n + k))
      · rfl
      · have := rng_mem.1 (has_iff.1 e)
        omega
    rw [show n + 1 + k = (n + k) + 1 by omega]
    simp only [rng, below, h1, h2, cond_true, cond_false, below_rng3 (m := m) (n := n) (a := a + 1) (k := k) (by omega)]
theorem allLt_of {m : Nat} : ∀ {l : List Nat}, (∀ n ∈ l, n < m) → allLt m l = true
  | [], _ => rfl
  | n :: r, h => by
    have h1 : Nat.blt n m = true := by
      have := h n List.mem_cons_self
      simp [Nat.blt]; omega
    simp only [allLt, h1, cond_true, allLt_of fun k hk => h k (List.mem_cons_of_mem _ hk)]
theorem allHas_of {ns : List Nat} : ∀ {l : List Nat}, (∀ n ∈ l, n ∈ ns) → allHas ns l = true
  | [], _ => rfl
  | n :: r, h => by
    simp only [allHas, has_iff.2 (h n List.mem_cons_self), cond_true, allHas_of fun k hk => h k (List.mem_cons_of_mem _ hk)]
theorem keysIn_of {m : Nat} : ∀ {l : List (Nat × Blk)}, (∀ n ∈ keys l, n < m) → nodupB (keys l) = true → keysIn m l = true
  | [], _, _ => rfl
  | (n, b) :: r, h, hd => by
    simp only [keys, List.mem_cons, forall_eq_or_imp] at h
    have h1 : Nat.blt n m = true := by simp [Nat.blt]; omega
    simp only [keys, nodupB] at hd
    cases hk : has n (keys r)
    · simp only [hk, cond_false] at hd
      simp only [keysIn, h1, hk, cond_true, cond_false, keysIn_of h.2 hd]
    · simp [hk] at hd
theorem nodup_rng : ∀ (n a : Nat), nodupB (rng a n) = true
  | 0, _ => rfl
  | n + 1, a => by
    have h2 : has a (rng (a + 1) n) = false := by
      cases e : has a (rng (a + 1) n)
      · rfl
      · have := rng_mem.1 (has_iff.1 e)
        omega
    simp only [rng, nodupB, h2, cond_false, nodup_rng n]
theorem rng_app : ∀ (n a m : Nat), rng a n ++ rng (a + n) m = rng a (n + m)
  | 0, a, m => by simp [rng]
  | n + 1, a, m => by
    have e : n + 1 + m = (n + m) + 1 := by omega
    rw [e]
    simp only [rng, List.cons_append]
    rw [← rng_app n (a + 1) m, show a + 1 + n = a + (n + 1) by omega]
theorem tellB_app (l' : List (Nat × Blk)) : ∀ l, tellers.tellB (l ++ l') = tellers.tellB l ++ tellers.tellB l'
  | [] => rfl
  | (n, b) :: r => by simp only [List.cons_append, tellers.tellB, tellB_app l' r, List.append_assoc]
theorem tellB_opt {F : Nat → Hid → Option HB} {ns : List Nat} {h : Hid} {x : Nat} : ∀ {l : List Nat} {i : Nat}, x ∈ tellers.tellB (optL F ns h l i) → x ∈ l ∨ x ∈ ns
  | [], _, hx => by simp [optL, tellers.tellB] at hx
  | n :: r, i, hx => by
    simp only [optL, tellers.tellB, List.mem_cons, List.mem_append, Blk.nm] at hx
    rcases hx with rfl | hx | hx
    · exact .inl List.mem_cons_self
    · exact .inr hx
    · exact (tellB_opt hx).imp_left (List.mem_cons_of_mem _)
theorem opt_tellB {F : Nat → Hid → Option HB} {ns : List Nat} {h : Hid} {x : Nat} : ∀ {l : List Nat} {i : Nat}, x ∈ l → x ∈ tellers.tellB (optL F ns h l i)
  | [], _, hx => by cases hx
  | n :: r, i, hx => by
    simp only [optL, tellers.tellB, List.mem_cons, List.mem_append, Blk.nm]
    rcases List.mem_cons.1 hx with rfl | hx
    · exact .inl rfl
    · exact .inr (.inr (opt_tellB hx))
theorem optsB_opt {ks : List Nat} {F : Nat → Hid → Option HB} {ns : List Nat} {h : Hid} (hns : ∀ x ∈ ns, x ∈ ks) {l' : List (Nat × Blk)} (h' : optsB ks l' = true) : ∀ (l : List Nat) (i : Nat), optsB ks (optL F ns h l i ++ l') = true
  | [], _ => h'
  | n :: r, i => by
    simp only [optL, List.cons_append, optsB, allHas_of hns, cond_true, optsB_opt hns h' r]
theorem okX_opt {F : Nat → Hid → Option HB} {ns : List Nat} {h : Hid} (hF : ∀ i hb, F i h = some hb → allLt ns.length hb.nm = true) {l' : List (Nat × Blk)} (h' : okX l' = true) : ∀ (l : List Nat) (i : Nat), okX (optL F ns h l i ++ l') = true
  | [], _ => h'
  | n :: r, i => by
    simp only [optL, List.cons_append, okX]
    split
    · rename_i hb hf
      simp only [hF i hb hf, cond_true, okX_opt hF h' r]
    · exact okX_opt hF h' r _
theorem vdup_of {L : List Nat} : ∀ {l : List (Nat × Blk)}, (∀ a b, a ∈ keys l → b ∈ keys l → L.getD a 0 = L.getD b 0 → a = b) → nodupB (keys l) = true → vdup L l = true
  | [], _, _ => rfl
  | (n, b) :: r, h, hd => by
    simp only [keys, nodupB] at hd
    cases hk : has n (keys r)
    · simp only [hk, cond_false] at hd
      simp only [vdup, Bool.and_eq_true, List.all_eq_true]
      refine ⟨fun p hp => ?_, vdup_of (fun a b ha hb => h a b (by simp only [keys]; exact List.mem_cons_of_mem _ ha) (by simp only [keys]; exact List.mem_cons_of_mem _ hb)) hd⟩
      have hpk : p.1 ∈ keys r := by
        clear h hd hk
        induction r with
        | nil => cases hp
        | cons q r ih =>
          obtain ⟨q1, q2⟩ := q
          simp only [keys, List.mem_cons]
          rcases List.mem_cons.1 hp with rfl | hp
          · exact .inl rfl
          · exact .inr (ih hp)
      have : Nat.beq (L.getD n 0) (L.getD p.1 0) = false := by
        cases e : Nat.beq (L.getD n 0) (L.getD p.1 0)
        · rfl
        · have e2 := h n p.1 (by simp [keys]) (by simp only [keys]; exact List.mem_cons_of_mem _ hpk) (beq_nat e)
          rw [← e2] at hpk
          rw [has_iff.2 hpk] at hk
          cases hk
      rw [this]
      rfl
    · simp [hk] at hd
theorem optL_at {F : Nat → Hid → Option HB} {ns : List Nat} {h : Hid} {n : Nat} : ∀ {l : List Nat} {i j : Nat}, j < l.length → l[j]? = some n → nodupB l = true → lookB n (optL F ns h l i) = some (.opt ns (F (i + j)) h)
  | [], _, _, hj, _, _ => by simp at hj
  | m :: r, i, 0, _, hn, _ => by
    simp only [List.getElem?_cons_zero, Option.some.injEq] at hn
    subst hn
    simp [optL, lookB]
  | m :: r, i, j + 1, hj, hn, hd => by
    simp only [List.getElem?_cons_succ] at hn
    have hne : Nat.beq m n = false := by
      cases e : Nat.beq m n
      · rfl
      · have := nodupB_get hd (i := 0) (j := j + 1) (n := n) (by simp [beq_nat e]) (by simpa using hn)
        omega
    have hd' : nodupB r = true := by
      simp only [nodupB] at hd
      cases hk : has m r
      · simpa [hk] using hd
      · simp [hk] at hd
    simp only [optL, lookB, hne, cond_false]
    rw [optL_at (l := r) (i := i + 1) (j := j) (by simpa using hj) hn hd']
    congr 3
    omega
/-- The blocks of some names. -/
def pickB (hp : Hp) : List Nat → Option (List Blk)
  | [] => some []
  | n :: r => match hp.get n with
    | some b => match pickB hp r with
      | some bs => some (b :: bs)
      | none => none
    | none => none
def bl (F : Nat → Hid → Option HB) (ns : List Nat) (h : Hid) : List Nat → Nat → List Blk
  | [], _ => []
  | _ :: r, i => .opt ns (F i) h :: bl F ns h r (i + 1)
theorem pickB_get {hp : Hp} {F : Nat → Hid → Option HB} {ns : List Nat} {h : Hid} : ∀ {l : List Nat} {i : Nat}, pickB hp l = some (bl F ns h l i) → ∀ j n, l[j]? = some n → hp.get n = some (.opt ns (F (i + j)) h)
  | [], _, _, j, n, hj => by simp at hj
  | m :: r, i, hb, j, n, hj => by
    simp only [pickB] at hb
    split at hb
    · rename_i b hg
      split at hb
      · rename_i bs hbs
        simp only [bl, Option.some.injEq, List.cons.injEq] at hb
        obtain ⟨rfl, rfl⟩ := hb
        cases j with
        | zero =>
          simp only [List.getElem?_cons_zero, Option.some.injEq] at hj
          subst hj
          exact hg
        | succ j =>
          have := pickB_get (l := r) (i := i + 1) hbs j n (by simpa using hj)
          rw [this]
          congr 3
          omega
      · cases hb
    · cases hb
theorem laysIn_app {hp : Hp} {σ : Nat → Nat} {l' : List (Nat × Blk)} : ∀ {l : List (Nat × Blk)}, laysIn hp σ l → laysIn hp σ l' → laysIn hp σ (l ++ l')
  | [], _, h => h
  | (_, _) :: _, h, h' => ⟨h.1, laysIn_app h.2 h'⟩
theorem laysIn_opt {hp : Hp} {σ : Nat → Nat} {F : Nat → Hid → Option HB} {ns : List Nat} {h : Hid} : ∀ {l : List Nat} {i : Nat}, (∀ j n, l[j]? = some n → hp.get (σ n) = some (.opt (mapN σ ns) (F (i + j)) h)) → laysIn hp σ (optL F ns h l i)
  | [], _, _ => trivial
  | n :: r, i, hg => ⟨by have := hg 0 n rfl; simpa [Blk.rn] using this, laysIn_opt fun j m hj => by
      have := hg (j + 1) m (by simpa using hj)
      rw [this]
      congr 3
      omega⟩
theorem samesIn_all {hp out : Hp} {wr : List Nat} : ∀ {l : List (Nat × Blk)}, (∀ n ∈ keys l, n ∈ wr) → samesIn hp out wr l
  | [], _ => trivial
  | (n, b) :: r, h => by
    simp only [keys, List.mem_cons, forall_eq_or_imp] at h
    exact ⟨.inl h.1, samesIn_all h.2⟩
theorem samesIn_self {hp : Hp} {wr : List Nat} : ∀ (l : List (Nat × Blk)), samesIn hp hp wr l
  | [] => trivial
  | (_, _) :: r => ⟨.inr rfl, samesIn_self r⟩
end Go.Proofs.YtocfhiafegkfkaaGreat.Ev
