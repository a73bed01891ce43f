/- 'append' does what the evaluator says. -/
import Derived.Test.YtcpkieahnkfpoaaEvBuiltin
namespace Go.Proofs.Ytcpkieahnkfpoaa.Ev
open Go Go.RowKit

def Blk.row : Blk → List Value
  | .ints k l _ => l.map (.int k)
  | .recs ks l _ => l.flatMap (rowV ks)
  | _ => []
def Blk.ty : Blk → TypeId
  | .ints _ _ t => t
  | .recs _ _ t => t
  | .bools _ t => t
  | .cells _ t => t
  | .own b _ => b.ty
  | .view _ b => b.ty
/-- Rows of numbers, and of records. -/
def Blk.plain : Blk → Prop
  | .ints _ _ _ | .recs _ _ _ => True
  | _ => False
theorem Blk.sat_plain {ρ : Nat → Nat} {b : Blk} {o : Obj} (hp : b.plain) : b.sat ρ o ↔ ∃ r, o = .cells ⟨b.row ++ r⟩ b.ty (0, 0) := by
  cases b <;> first | exact Iff.rfl | exact hp.elim
theorem row_length {b : Blk} (hp : b.plain) : b.row.length = b.len * b.esz := by
  cases b with
  | ints k l ty => simp [Blk.row, Blk.len, Blk.esz]
  | recs ks l ty =>
    simp only [Blk.row, Blk.len, Blk.esz]
    induction l with
    | nil => simp
    | cons x l ih => simp only [List.flatMap_cons, List.length_append, rowV_length, List.length_cons, Nat.succ_mul]; rw [ih trivial]; omega
  | _ => exact hp.elim
theorem row_oneCell {b : Blk} : ∀ v ∈ b.row, v.oneCell' = true := by
  cases b with
  | ints k l ty => exact int_oneCell k l
  | recs ks l ty =>
    intro v hv
    simp only [Blk.row, List.mem_flatMap] at hv
    obtain ⟨x, _, hx⟩ := hv
    have : ∀ (ks : List IntKind) (x : List Int), ∀ v ∈ rowV ks x, v.oneCell' = true := by
      intro ks
      induction ks with
      | nil => intro x v hv; simp [rowV] at hv
      | cons k ks ih =>
        intro x v hv
        cases x with
        | nil =>
          simp only [rowV, List.mem_cons] at hv
          rcases hv with rfl | hv
          · rfl
          · exact ih _ _ hv
        | cons y ys =>
          simp only [rowV, List.mem_cons] at hv
          rcases hv with rfl | hv
          · rfl
          · exact ih _ _ hv
    exact this ks x v hx
  | _ => intro v hv; simp [Blk.row] at hv

theorem eqKs_eq : ∀ {a b : List IntKind}, eqKs a b = true → a = b
  | [], [], _ => rfl
  | [], _ :: _, h => by simp [eqKs] at h
  | _ :: _, [], h => by simp [eqKs] at h
  | k :: ks, k' :: ks', h => by
    simp only [eqKs] at h
    split at h
    · rename_i e; rw [e, eqKs_eq h]
    · cases h
theorem catB_some {b b' b2 : Blk} (h : catB b b' = some b2) : b.plain ∧ b'.plain ∧ b2.plain ∧ b2.row = b.row ++ b'.row ∧ b2.esz = b.esz ∧ b2.len = b.len + b'.len ∧ b2.ty = b.ty := by
  cases b <;> cases b' <;> simp only [catB, reduceCtorEq] at h
  · split at h
    · rename_i e
      subst e
      obtain rfl := Option.some.inj h
      exact ⟨trivial, trivial, trivial, by simp [Blk.row], rfl, by simp [Blk.len], rfl⟩
    · cases h
  · rename_i ks l ty ks' l' ty'
    cases hk : eqKs ks ks'
    · simp only [hk, cond_false, reduceCtorEq] at h
    · simp only [hk, cond_true] at h
      obtain rfl := eqKs_eq hk
      obtain rfl := Option.some.inj h
      exact ⟨trivial, trivial, trivial, by simp [Blk.row], rfl, by simp [Blk.len], rfl⟩

theorem parseI_some : ∀ {k : IntKind} {cs : List Value} {l : List Int}, parseI k cs = some l → cs = l.map (.int k)
  | k, [], l, h => by simp only [parseI, Option.some.injEq] at h; subst h; rfl
  | k, v :: r, l, h => by
    cases v <;> simp only [parseI, reduceCtorEq] at h
    split at h
    · rename_i e
      subst e
      split at h
      · rename_i l' hl
        obtain rfl := Option.some.inj h
        rw [parseI_some hl]
        rfl
      · cases h
    · cases h
theorem parseO_some : ∀ {ks : List IntKind} {cs r : List Value} {x : List Int}, parseO ks cs = some (x, r) → cs = rowV ks x ++ r
  | [], cs, r, x, h => by simp only [parseO, Option.some.injEq, Prod.mk.injEq] at h; obtain ⟨rfl, rfl⟩ := h; rfl
  | k :: ks, [], r, x, h => by simp [parseO] at h
  | k :: ks, v :: cs, r, x, h => by
    cases v <;> simp only [parseO, reduceCtorEq] at h
    split at h
    · rename_i e
      subst e
      split at h
      · rename_i l r' hl
        simp only [Option.some.injEq, Prod.mk.injEq] at h
        obtain ⟨rfl, rfl⟩ := h
        rw [parseO_some hl]
        rfl
      · cases h
    · cases h
theorem parseR_some : ∀ {ks : List IntKind} {n : Nat} {cs : List Value} {l : List (List Int)}, parseR ks n cs = some l → cs = l.flatMap (rowV ks)
  | ks, 0, [], l, h => by simp only [parseR, Option.some.injEq] at h; subst h; rfl
  | ks, 0, _ :: _, l, h => by simp [parseR] at h
  | ks, n + 1, cs, l, h => by
    simp only [parseR] at h
    split at h
    · rename_i x r hx
      split at h
      · rename_i xs hxs
        obtain rfl := Option.some.inj h
        rw [parseO_some hx, parseR_some hxs]
        simp
      · cases h
    · cases h

section
variable {E : Env} {S : Nat → Prop} {ρ : Nat → Nat} {hp : Hp} {w : World}
theorem map_ren_row {b : Blk} (hp : b.plain) (ρ : Nat → Nat) : b.row.map (ren ρ) = b.row := by
  cases b with
  | ints k l t =>
    simp only [Blk.row, List.map_map]
    rfl
  | recs ks l t =>
    simp only [Blk.row, List.map_flatMap]
    congr 1
    funext x
    exact map_ren_rowV ρ ks x
  | _ => exact hp.elim


/-- What is appended to. -/
theorem appBase_some {e : TypeId} {kn : Bool × List IntKind} {x x' : Value} {ns : List Nat} {len : Nat} {b : Blk} {pc : List Prop} (h : appBase hp e kn x = some (ns, len, b, pc)) (hpc : ∀ p ∈ pc, p)
    (hx : VR S ρ x x') (hH : HR S ρ hp w) (hbp : b.plain) : len = b.len ∧ b.ty = e ∧ w.ownsRow 0 e b.esz x' len b.row ∧ ((ns = [] ∧ x' = .slice none 0 0) ∨ ∃ n b0, ns = [n] ∧ hp.get n = some b0 ∧ ∃ c, b0.isV = false ∧ x' = .slice (some ⟨ρ n, 0, none⟩) len c) := by
  have hnew : (emptyB e kn).len = 0 ∧ (emptyB e kn).ty = e ∧ (emptyB e kn).row = [] := by
    obtain ⟨f, ks⟩ := kn
    cases f <;> cases ks <;> exact ⟨rfl, rfl, rfl⟩
  unfold appBase at h
  split at h
  · simp only [Option.some.injEq, Prod.mk.injEq] at h
    obtain ⟨rfl, rfl, rfl, rfl⟩ := h
    obtain ⟨h1, h2, h3⟩ := hnew
    obtain rfl : x' = .slice none 0 0 := hx.self
    refine ⟨h1.symm, h2, ?_, .inl ⟨rfl, rfl⟩⟩
    rw [h3]
    exact World.ownsRow_nil _ _ _ _
  · rename_i n
    split at h
    · rename_i ty hg
      cases ht : Nat.beq ty e
      · simp only [ht, cond_false, reduceCtorEq] at h
      · simp only [ht, cond_true, Option.some.injEq, Prod.mk.injEq] at h
        obtain rfl := beq_nat ht
        obtain ⟨rfl, rfl, rfl, rfl⟩ := h
        obtain ⟨h1, h2, h3⟩ := hnew
        obtain rfl : x' = .slice (some ⟨ρ n, 0, none⟩) 0 0 := hx.self
        obtain ⟨o, ho, hs⟩ := hH.block hg
        have hs0 : o = .cells ⟨[]⟩ ty (0, 0) := hs ρ (Ag.refl _ _)
        subst hs0
        refine ⟨h1.symm, h2, ?_, .inr ⟨n, _, rfl, hg, 0, rfl, rfl⟩⟩
        rw [h3]
        exact ⟨by simp, .inr ⟨ρ n, 0, ⟨[]⟩, rfl, Nat.zero_le _, ho, Nat.le_refl _, Nat.zero_le _, by simp, by simp⟩⟩
    · cases h
  · rename_i n c len0 cap
    split at h
    · rename_i b0 c' hg
      cases hc : Nat.beq c' c
      · simp only [hc, cond_false, reduceCtorEq] at h
      · simp only [hc, cond_true] at h
        obtain rfl := beq_nat hc
        obtain rfl : x' = .slice (some ⟨ρ n, 0, none⟩) len0 (ρ c') := hx.self
        obtain ⟨o, ho, hs⟩ := hH.block hg
        have key : ∀ b1 : Blk, b0 = b1 → b1.plain → b1.ty = e → len0 = b1.len → w.ownsRow 0 e b1.esz (.slice (some ⟨ρ n, 0, none⟩) len0 (ρ c')) len0 b1.row := by
          rintro b1 rfl hp1 hty hlen
          obtain ⟨h1, h2, h3, h4⟩ := hs ρ (Ag.refl _ _)
          obtain ⟨r, rfl⟩ := (Blk.sat_plain hp1).1 h1
          rw [hty] at ho
          refine ⟨by rw [row_length hp1, hlen], .inr ⟨ρ n, ρ c', _, rfl, Nat.zero_le _, ho, by omega, h4, h2, ?_⟩⟩
          rw [hlen, ← row_length hp1]
          exact List.take_left
        split at h
        · rename_i k l ty
          cases ht : Nat.beq ty e
          · simp only [ht, cond_false, reduceCtorEq] at h
          · simp only [ht, cond_true, Option.some.injEq, Prod.mk.injEq] at h
            obtain ⟨rfl, rfl, rfl, rfl⟩ := h
            have hl : len0 = l.length := hpc _ (by simp)
            exact ⟨hl, beq_nat ht, key _ rfl trivial (beq_nat ht) hl, .inr ⟨n, _, rfl, hg, _, rfl, rfl⟩⟩
        · rename_i ks l ty
          cases ht : Nat.beq ty e
          · simp only [ht, cond_false, reduceCtorEq] at h
          · simp only [ht, cond_true, Option.some.injEq, Prod.mk.injEq] at h
            obtain ⟨rfl, rfl, rfl, rfl⟩ := h
            have hl : len0 = l.length := hpc _ (by simp)
            exact ⟨hl, beq_nat ht, key _ rfl trivial (beq_nat ht) hl, .inr ⟨n, _, rfl, hg, _, rfl, rfl⟩⟩
        · cases h
    · cases h
  · rename_i n len0 cap _
    split at h
    · rename_i cs ty hg
      cases hc : (Nat.beq ty e && Nat.beq len0 cap)
      · simp only [hc, cond_false, reduceCtorEq] at h
      · simp only [hc, cond_true] at h
        simp only [Bool.and_eq_true] at hc
        obtain rfl := beq_nat hc.2
        have hty := beq_nat hc.1
        obtain rfl : x' = .slice (some ⟨ρ n, 0, none⟩) len0 len0 := hx.self
        obtain ⟨o, ho, hs⟩ := hH.block hg
        have key : ∀ b1 : Blk, b1.plain → cs = b1.row → len0 = b1.len → len0 ≤ 9223372036854775807 → w.ownsRow 0 e b1.esz (.slice (some ⟨ρ n, 0, none⟩) len0 len0) len0 b1.row := by
          intro b1 hp1 hrow hlen hmax
          have hs0 : o = .cells ⟨cs.map (ren ρ)⟩ ty (0, 0) := hs ρ (Ag.refl _ _)
          have hmap : cs.map (ren ρ) = b1.row := by
            rw [hrow]
            exact map_ren_row hp1 ρ
          rw [hmap] at hs0
          subst hs0
          rw [hty] at ho
          have hl := row_length hp1
          rw [← hlen] at hl
          refine ⟨hl, .inr ⟨ρ n, len0, _, rfl, Nat.zero_le _, ho, Nat.le_refl _, hmax, by simpa using hl, ?_⟩⟩
          rw [← hl]
          exact List.take_length
        split at h
        · rename_i k
          split at h
          · rename_i l hl
            cases hq : Nat.beq l.length len0
            · simp only [hq, cond_false, reduceCtorEq] at h
            · simp only [hq, cond_true, Option.some.injEq, Prod.mk.injEq] at h
              obtain ⟨rfl, rfl, rfl, rfl⟩ := h
              have hlen := (beq_nat hq).symm
              exact ⟨hlen, hty, key (.ints k l ty) trivial (parseI_some hl) hlen (hpc _ (by simp)), .inr ⟨n, _, rfl, hg, _, rfl, rfl⟩⟩
          · cases h
        · rename_i ks
          split at h
          · rename_i l hl
            cases hq : Nat.beq l.length len0
            · simp only [hq, cond_false, reduceCtorEq] at h
            · simp only [hq, cond_true, Option.some.injEq, Prod.mk.injEq] at h
              obtain ⟨rfl, rfl, rfl, rfl⟩ := h
              have hlen := (beq_nat hq).symm
              exact ⟨hlen, hty, key (.recs ks l ty) trivial (parseR_some hl) hlen (hpc _ (by simp)), .inr ⟨n, _, rfl, hg, _, rfl, rfl⟩⟩
          · cases h
        · cases h
    · cases h
  · cases h

/-- What is appended. -/
theorem appSrc_some {kn : Bool × List IntKind} {y y' : Value} {s m : Nat} {b : Blk} {pc : List Prop} {lit : Bool} (h : appSrc hp kn y = some (s, m, b, pc, lit)) (hpc : ∀ p ∈ pc, p)
    (hy : VR S ρ y y') (hH : HR S ρ hp w) : m = b.len ∧ (lit = true → 0 < m) ∧ ∃ so c, y' = .slice (some ⟨ρ s, so, none⟩) m c ∧ ∀ (j : Nat) u, b.row[j]? = some u → w.cell? ((⟨ρ s, so, none⟩ : Addr).add j) = some u := by
  unfold appSrc at h
  split at h
  · rename_i s0 so sp m0 c0
    obtain ⟨c', rfl⟩ := slice_of hy
    have row : ∀ k l sb q, hp.get s0 = some sb → rowI so sb = some (k, l, q) → q → ∀ (j : Nat) u, ((l.take m0).map (Value.int k))[j]? = some u → w.cell? ((⟨ρ s0, so, none⟩ : Addr).add j) = some u := by
      intro k l sb q hg hr hq j u hu
      obtain ⟨o, ho, hs⟩ := hH.block hg
      obtain ⟨cells, ty, fr, rfl, hc⟩ := Blk.sat_row hr hq (hs ρ (Ag.refl _ _))
      rw [Addr.add_mid, cell_of ho]
      simp only [List.getElem?_map, List.getElem?_take] at hu
      split at hu
      · exact hc j u (by rw [List.getElem?_map]; exact hu)
      · cases hu
    have lit_ : ∀ cs ty, hp.get s0 = some (.cells cs ty) → ∀ (bb : Blk), so = 0 → cs = bb.row → ∀ (j : Nat) u, bb.row[j]? = some u → w.cell? ((⟨ρ s0, so, none⟩ : Addr).add j) = some u := by
      intro cs ty hg bb hz e j u hu
      subst hz
      obtain ⟨o, ho, hs⟩ := hH.block hg
      have hs0 : o = .cells ⟨cs.map (ren ρ)⟩ ty (0, 0) := hs ρ (Ag.refl _ _)
      subst hs0
      rw [Addr.add_mid, Nat.zero_add, cell_of ho]
      simp only [List.getElem?_toArray, List.getElem?_map, e, hu, Option.map_some]
      congr 1
      have hm := List.mem_of_getElem? hu
      have hc : ∀ v ∈ bb.row, ren ρ v = v := by
        cases bb with
        | ints k l t => intro v hv; obtain ⟨x, _, rfl⟩ := List.mem_map.1 hv; rfl
        | recs ks l t =>
          intro v hv
          simp only [Blk.row, List.mem_flatMap] at hv
          obtain ⟨x, _, hx⟩ := hv
          have := map_ren_rowV ρ ks x
          obtain ⟨i, hi⟩ := List.mem_iff_getElem?.1 hx
          have q : ((rowV ks x).map (ren ρ))[i]? = (rowV ks x)[i]? := by rw [this]
          rw [List.getElem?_map, hi] at q
          exact Option.some.inj q
        | _ => intro v hv; simp [Blk.row] at hv
      exact hc u hm
    split at h
    · rename_i k l ty hg
      simp only [Option.some.injEq, Prod.mk.injEq] at h
      obtain ⟨rfl, rfl, rfl, rfl, rfl⟩ := h
      have hl : m0 ≤ l.length := hpc _ (by simp)
      exact ⟨by simp [Blk.len]; omega, by simp, so, c', rfl, row k l _ _ hg rfl (hpc _ (by simp))⟩
    · rename_i k l ty q hg
      simp only [Option.some.injEq, Prod.mk.injEq] at h
      obtain ⟨rfl, rfl, rfl, rfl, rfl⟩ := h
      have hl : m0 ≤ l.length := hpc _ (by simp)
      exact ⟨by simp [Blk.len]; omega, by simp, so, c', rfl, row k l _ _ hg rfl (hpc _ (by simp))⟩
    · rename_i off k l ty hg
      simp only [Option.some.injEq, Prod.mk.injEq] at h
      obtain ⟨rfl, rfl, rfl, rfl, rfl⟩ := h
      have hl : m0 ≤ l.length := hpc _ (by simp)
      exact ⟨by simp [Blk.len]; omega, by simp, so, c', rfl, row k l _ _ hg rfl (hpc _ (by simp))⟩
    · rename_i cs ty hg
      cases hz : Nat.beq so 0
      · simp only [hz, Bool.not_false, cond_true, reduceCtorEq] at h
      simp only [hz, Bool.not_true, cond_false] at h
      have hz := beq_nat hz
      split at h
      · rename_i k
        split at h
        · rename_i l hl
          cases hc : Nat.beq l.length m0
          · simp only [hc, cond_false, reduceCtorEq] at h
          · simp only [hc, cond_true, Option.some.injEq, Prod.mk.injEq] at h
            obtain ⟨rfl, rfl, rfl, rfl, rfl⟩ := h
            exact ⟨(beq_nat hc).symm, by simp, so, c', rfl, lit_ cs ty hg (.ints k l ty) hz (parseI_some hl)⟩
        · cases h
      · rename_i ks
        split at h
        · rename_i l hl
          cases hc : Nat.beq l.length m0
          · simp only [hc, cond_false, reduceCtorEq] at h
          · simp only [hc, cond_true, Option.some.injEq, Prod.mk.injEq] at h
            obtain ⟨rfl, rfl, rfl, rfl, rfl⟩ := h
            exact ⟨(beq_nat hc).symm, by simp, so, c', rfl, lit_ cs ty hg (.recs ks l ty) hz (parseR_some hl)⟩
        · cases h
      · cases h
    · cases h
  · cases h

/-- Where the appended row lies. -/
theorem append_run {t ty e : TypeId} {i : TypeInfo} {z : Value} {size : Nat} (ht : E.P.underlying t = some (.slice e)) (hi : E.P.info? e = some i) (hz : i.zero = some z) (hsize : i.size = size) (hzs : z.cells.size = size) (hsz : 0 < size)
    {v : Value} {n : Nat} {xs : List Value} (hown : w.ownsRow 0 e size v n xs) {a : Addr} {m c : Nat} {news : List Value} (hl : news.length = m * size) (hnews : ∀ j u, news[j]? = some u → w.cell? (a.add j) = some u)
    (h1 : ∀ u ∈ news, u.oneCell' = true) (h63 : n + m ≤ 9223372036854775807) (hbytes : (n + m) * i.bytes ≤ 140737488355328) (hne : v ≠ .slice none 0 0 ∨ 0 < m) :
    ∃ g' cap' w', (Builtin.append_ #[t, t] ty #[v, .slice (some a) m c]).run E.P w = .ok (.slice (some ⟨g', 0, none⟩) (n + m) cap') w' ∧ w'.ownsRow 0 e size (.slice (some ⟨g', 0, none⟩) (n + m) cap') (n + m) (xs ++ news) ∧
      w.grownBy w' v.ownBlock ∧ (v.ownBlock = some g' ∨ w.heap.size ≤ g') := by
  obtain ⟨v', w', hr, ho, hg, hn⟩ := run_append_own (P := E.P) w 0 t ty e i z size i.bytes ht hi hz hsize rfl hzs hsz v n xs hown a m c news hl hnews h1 (by simpa [maxLen] using h63) hbytes (Nat.zero_le _)
  rcases hown.2 with ⟨hv, h0⟩ | ⟨g, cap, cur, hv, _, hgg, hnc, hcm, hcs, htake⟩
  · have hm : 0 < m := hne.resolve_left (fun e => e hv)
    subst hv
    subst h0
    have h2 := run_append_nil (P := E.P) w t ty e i z ht hi hz a m c news (by rw [hsize]; exact hl) hnews hm (by omega) (by simp only [Nat.zero_add] at hbytes; omega)
    rw [hr] at h2
    injection h2 with e1 e2
    subst e1
    refine ⟨w.heap.size, _, w', by rw [hr, Nat.zero_add], by simpa using ho, hg, .inr (Nat.le_refl _)⟩
  · subst hv
    by_cases hroom : n + m ≤ cap
    · have hfit : n * i.size + news.length ≤ cur.size := by rw [hl, hcs, hsize, ← Nat.add_mul]; exact Nat.mul_le_mul_right _ hroom
      have h2 := run_append_room (P := E.P) w t ty e i ht hi g n cap cur hgg a m c news (by rw [hsize]; exact hl) hnews h1 hroom hfit
      rw [hr] at h2
      injection h2 with e1 e2
      subst e1
      exact ⟨g, cap, w', hr, ho, hg, .inl rfl⟩
    · have holds : ∀ j u, xs[j]? = some u → w.cell? ((⟨g, 0, none⟩ : Addr).add j) = some u := hown.cells (g := g) rfl
      have h2 := run_append_grow (P := E.P) w t ty e i z ht hi hz ⟨g, 0, none⟩ n cap xs (by rw [hsize]; exact hown.1) holds a m c news (by rw [hsize]; exact hl) hnews (by omega) (by omega) (growslice_fits (by omega) hbytes)
      rw [hr] at h2
      injection h2 with e1 e2
      subst e1
      exact ⟨w.heap.size, _, w', hr, ho, hg, .inr (Nat.le_refl _)⟩
end
end Go.Proofs.Ytcpkieahnkfpoaa.Ev
