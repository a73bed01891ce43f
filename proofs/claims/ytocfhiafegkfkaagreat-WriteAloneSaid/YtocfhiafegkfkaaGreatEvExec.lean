/- Operations, guarded and not, and rows of them do what the evaluator says. -/
import Derived.Test.YtocfhiafegkfkaaGreatEvOp4
import Derived.LoopN
namespace Go.Proofs.YtocfhiafegkfkaaGreat.Ev
open Go Go.RowKit

/-- Names rise; what was written to stays told; what was neither written to nor made is as it was. -/
structure Keep (hp hp1 : Hp) : Prop where
  le : hp.next ≤ hp1.next
  log : ∀ m, m < hp.next → m ∈ hp.log → m ∈ hp1.log
  same : ∀ n, n < hp.next → n ∉ hp1.log → hp1.get n = hp.get n
theorem Keep.refl (hp : Hp) : Keep hp hp := ⟨Nat.le_refl _, fun _ _ h => h, fun _ _ _ => rfl⟩
theorem Keep.trans {a b c : Hp} (h : Keep a b) (k : Keep b c) : Keep a c :=
  ⟨Nat.le_trans h.le k.le, fun m hm hl => k.log m (Nat.lt_of_lt_of_le hm h.le) (h.log m hm hl), fun n hn hl => by
    rw [k.same n (Nat.lt_of_lt_of_le hn h.le) hl]
    exact h.same n hn (fun hb => hl (k.log n (Nat.lt_of_lt_of_le hn h.le) hb))⟩
theorem Keep.add (hp : Hp) (b : Blk) : Keep hp (hp.add b) :=
  ⟨by simp [Hp.add], fun _ _ h => h, fun n hn _ => by rw [get_add, if_neg (by omega)]⟩
theorem Keep.set (hp : Hp) (n : Nat) (b : Blk) : Keep hp (hp.set n b) :=
  ⟨Nat.le_refl _, fun _ _ h => List.mem_cons_of_mem _ h, fun m _ hl => by
    rw [get_set, if_neg (fun (e : m = n) => hl (by subst e; exact List.mem_cons_self))]⟩

section
variable {E : Env} {tm : List Value} {hp hp1 : Hp} {v : Value} {pc : List Prop}
theorem aop_keep {op : Op} (h : aop E tm hp op = some (v, hp1, pc)) : Keep hp hp1 := by
  unfold aop at h
  cases op with
  | move x =>
    dsimp only at h
    split at h
    · simp only [Option.some.injEq, Prod.mk.injEq] at h; obtain ⟨_, rfl, _⟩ := h; exact Keep.refl _
    · cases h
  | assign x =>
    dsimp only at h
    split at h
    · simp only [Option.some.injEq, Prod.mk.injEq] at h; obtain ⟨_, rfl, _⟩ := h; exact Keep.refl _
    · cases h
  | alloc e =>
    dsimp only at h
    split at h
    · simp only [Option.some.injEq, Prod.mk.injEq] at h; obtain ⟨_, rfl, _⟩ := h; exact Keep.add _ _
    · cases h
  | box e x =>
    dsimp only at h
    split at h
    · simp only [Option.some.injEq, Prod.mk.injEq] at h; obtain ⟨_, rfl, _⟩ := h; exact Keep.add _ _
    · cases h
  | build t ps =>
    dsimp only at h
    split at h
    · split at h
      · simp only [Option.some.injEq, Prod.mk.injEq] at h; obtain ⟨_, rfl, _⟩ := h; exact Keep.refl _
      · cases h
    · cases h
  | buildSlice t len parts =>
    dsimp only at h
    split at h
    · split at h
      · rename_i z hz
        split at h
        · rename_i j hj
          split at h
          · rename_i ps hps
            cases hc : (Nat.beq z.length j.size && Nat.ble (len * j.size) 16777216)
            · simp only [hc, cond_false, reduceCtorEq] at h
            · simp only [hc, cond_true] at h
              split at h
              · simp only [Option.some.injEq, Prod.mk.injEq] at h; obtain ⟨_, rfl, _⟩ := h; exact Keep.add _ _
              · cases h
          · cases h
        · cases h
      · cases h
    · cases h
  | load t x =>
    dsimp only at h
    split at h
    · split at h
      · split at h
        · split at h
          · simp only [Option.some.injEq, Prod.mk.injEq] at h; obtain ⟨_, rfl, _⟩ := h; exact Keep.refl _
          · cases h
        · split at h
          · simp only [Option.some.injEq, Prod.mk.injEq] at h; obtain ⟨_, rfl, _⟩ := h; exact Keep.refl _
          · cases h
        · cases h
      · cases h
    · cases h
  | store t x y =>
    dsimp only at h
    split at h
    · rename_i vy _ _
      split at h
      · split at h
        · rename_i sz _
          cases hc : Nat.beq (cellsV vy).length sz
          · simp only [hc, cond_false, reduceCtorEq] at h
          · simp only [hc, cond_true] at h
            split at h
            · simp only [Option.some.injEq, Prod.mk.injEq] at h; obtain ⟨_, rfl, _⟩ := h; exact Keep.set _ _ _
            · cases h
        · cases h
      · cases h
    · cases h
  | makeSlice t x y =>
    cases x with
    | tmp l =>
      cases y with
      | tmp c =>
        dsimp only at h
        cases hc : Nat.beq l c
        · simp only [hc, cond_false, reduceCtorEq] at h
        · simp only [hc, cond_true] at h
          split at h
          · split at h
            · split at h
              · simp only [Option.some.injEq, Prod.mk.injEq] at h; obtain ⟨_, rfl, _⟩ := h; exact Keep.add _ _
              · cases h
            · cases h
          · cases h
      | _ => cases h
    | _ => cases h
  | nilCheck x =>
    dsimp only at h
    split at h
    · simp only [Option.some.injEq, Prod.mk.injEq] at h; obtain ⟨_, rfl, _⟩ := h; exact Keep.refl _
    · simp only [Option.some.injEq, Prod.mk.injEq] at h; obtain ⟨_, rfl, _⟩ := h; exact Keep.refl _
    · cases h
  | binOp op t x y yt =>
    dsimp only at h
    split at h
    · split at h
      · simp only [Option.some.injEq, Prod.mk.injEq] at h; obtain ⟨_, rfl, _⟩ := h; exact Keep.refl _
      · cases h
    · cases h
  | unOp op t x =>
    dsimp only at h
    split at h
    · simp only [Option.some.injEq, Prod.mk.injEq] at h; obtain ⟨_, rfl, _⟩ := h; exact Keep.refl _
    · simp only [Option.some.injEq, Prod.mk.injEq] at h; obtain ⟨_, rfl, _⟩ := h; exact Keep.refl _
    · cases h
  | convert s d x =>
    dsimp only at h
    split at h
    · simp only [Option.some.injEq, Prod.mk.injEq] at h; obtain ⟨_, rfl, _⟩ := h; exact Keep.refl _
    · cases h
  | makeFunc fn a b =>
    dsimp only at h
    split at h
    · simp only [Option.some.injEq, Prod.mk.injEq] at h; obtain ⟨_, rfl, _⟩ := h; exact Keep.refl _
    · cases h
  | fieldAddr s x f =>
    dsimp only at h
    split at h
    · simp only [Option.some.injEq, Prod.mk.injEq] at h; obtain ⟨_, rfl, _⟩ := h; exact Keep.refl _
    · cases h
  | field s x f =>
    dsimp only at h
    split at h
    · split at h
      · split at h
        · simp only [Option.some.injEq, Prod.mk.injEq] at h; obtain ⟨_, rfl, _⟩ := h; exact Keep.refl _
        · cases h
      · cases h
    · cases h
  | indexAddr t x i =>
    dsimp only at h
    split at h
    · split at h
      · simp only [Option.some.injEq, Prod.mk.injEq] at h; obtain ⟨_, rfl, _⟩ := h; exact Keep.refl _
      · cases h
    · split at h
      · split at h
        · simp only [Option.some.injEq, Prod.mk.injEq] at h; obtain ⟨_, rfl, _⟩ := h; exact Keep.refl _
        · cases h
      · cases h
    · cases h
  | index t x i =>
    dsimp only at h
    split at h
    · split at h
      · split at h
        · split at h
          · simp only [Option.some.injEq, Prod.mk.injEq] at h; obtain ⟨_, rfl, _⟩ := h; exact Keep.refl _
          · cases h
        · cases h
      · cases h
    · cases h
  | extract x i =>
    dsimp only at h
    split at h
    · split at h
      · simp only [Option.some.injEq, Prod.mk.injEq] at h; obtain ⟨_, rfl, _⟩ := h; exact Keep.refl _
      · cases h
    · cases h
  | slice t x lo hi mx =>
    cases lo with
    | none => simp at h
    | some y =>
      cases hi with
      | some _ => simp at h
      | none =>
        cases mx with
        | some _ => simp at h
        | none =>
          dsimp only at h
          split at h
          · simp only [Option.some.injEq, Prod.mk.injEq] at h
            obtain ⟨_, rfl, _⟩ := h
            exact ⟨Nat.le_succ _, fun _ _ hm => hm, fun _ _ _ => rfl⟩
          · cases h
  | makeInterface t x =>
    dsimp only at h
    split at h
    · simp only [Option.some.injEq, Prod.mk.injEq] at h; obtain ⟨_, rfl, _⟩ := h; exact Keep.refl _
    · cases h
  | _ => cases h
end

end Go.Proofs.YtocfhiafegkfkaaGreat.Ev
namespace Go.Proofs.YtocfhiafegkfkaaGreat.Ev
open Go Go.RowKit

theorem VRL.nil {S : Nat → Prop} {ρ : Nat → Nat} {a : List Value} (h : VRL S ρ [] a) : a = [] := h.self
theorem VRL.cons {S : Nat → Prop} {ρ : Nat → Nat} {v : Value} {l a : List Value} (h : VRL S ρ (v :: l) a) : ∃ u b, a = u :: b ∧ VR S ρ v u ∧ VRL S ρ l b := by
  have e := h.self
  rw [List.map_cons] at e
  refine ⟨_, _, e, fun ρ' ha => ?_, fun ρ' ha => ?_⟩
  · have := h ρ' ha
    rw [e, List.map_cons] at this
    exact (List.cons.inj this).1
  · have := h ρ' ha
    rw [e, List.map_cons] at this
    exact (List.cons.inj this).2
theorem VRL.mk {S : Nat → Prop} {ρ : Nat → Nat} {v u : Value} {l a : List Value} (h : VR S ρ v u) (h' : VRL S ρ l a) : VRL S ρ (v :: l) (u :: a) :=
  fun ρ' ha => by rw [h ρ' ha, h' ρ' ha, List.map_cons]
theorem VRL.app {S : Nat → Prop} {ρ : Nat → Nat} {l l' a a' : List Value} (h : VRL S ρ l a) (h' : VRL S ρ l' a') : VRL S ρ (l ++ l') (a ++ a') :=
  fun ρ' ha => by rw [h ρ' ha, h' ρ' ha, List.map_append]

section
variable {E : Env} {S : Nat → Prop} {ρ : Nat → Nat} {hp : Hp} {w : World}

theorem slice_of {a : Addr} {n c : Nat} {u : Value} (h : VR S ρ (.slice (some a) n c) u) (ha : spOk a.spot a.off = true) : ∃ c', u = .slice (some ⟨ρ a.block, a.off, none⟩) n c' := by
  obtain ⟨b, o, sp⟩ := a
  cases sp with
  | none => exact ⟨_, h.self⟩
  | some k =>
    obtain rfl : o = 0 := beq_nat ha
    exact ⟨_, h.self⟩

/-- The cells of a row of numbers. -/
theorem Blk.pres_row {b : Blk} {so : Nat} {r : IntKind × List Int × Prop} (h : rowI so b = some r) : b.pres = true := by
  cases b with
  | opt ns f h' => simp [rowI] at h
  | _ => rfl
theorem Blk.sat_row {ρ : Nat → Nat} {b : Blk} {k : IntKind} {l : List Int} {so : Nat} {q : Prop} {o : Obj} (hr : rowI so b = some (k, l, q)) (hq : q) (hs : b.sat ρ o) :
    ∃ cells ty fr, o = .cells cells ty fr ∧ ∀ (j : Nat) v, (l.map (Value.int k))[j]? = some v → cells[so + j]? = some v := by
  have plain : ∀ (l : List Int) (k : IntKind) (r : List Value) (j : Nat) v, (l.map (Value.int k))[j]? = some v → (⟨l.map (Value.int k) ++ r⟩ : Array Value)[0 + j]? = some v := fun l k r j v hv => by
    rw [Nat.zero_add, List.getElem?_toArray, List.getElem?_append_left (List.getElem?_eq_some_iff.1 hv).1]
    exact hv
  cases b with
  | ints k' l' ty =>
    simp only [rowI, Option.some.injEq, Prod.mk.injEq] at hr
    obtain ⟨rfl, rfl, rfl⟩ := hr
    obtain ⟨r, h⟩ := hs
    subst hq
    exact ⟨_, ty, _, h, plain _ _ r⟩
  | own b c =>
    cases b with
    | ints k' l' ty =>
      simp only [rowI, Option.some.injEq, Prod.mk.injEq] at hr
      obtain ⟨rfl, rfl, rfl⟩ := hr
      obtain ⟨r, h⟩ := hs.1
      subst hq
      exact ⟨_, ty, _, h, plain _ _ r⟩
    | _ => simp [rowI] at hr
  | view off b =>
    cases b with
    | ints k' l' ty =>
      simp only [rowI, Option.some.injEq, Prod.mk.injEq] at hr
      obtain ⟨rfl, rfl, rfl⟩ := hr
      subst hq
      exact hs
    | _ => simp [rowI] at hr
  | _ => simp [rowI] at hr

theorem int_oneCell (k : IntKind) (l : List Int) : ∀ v ∈ l.map (Value.int k), v.oneCell' = true := fun v hv => by
  obtain ⟨x, _, rfl⟩ := List.mem_map.1 hv; rfl

theorem sound_copy {t e ty : TypeId} {d s so dn sn dc sc : Nat} {q : Prop} {ds' ss' : Option Nat} {k : IntKind} {ld ls : List Int} {sb : Blk} {x y : Value}
    (hs : elemSz E t = some (e, 1)) (hgd : hp.get d = some (.ints k ld ty)) (hgs : hp.get s = some sb) (hrow : rowI so sb = some (k, ls, q)) (hq : q)
    (h1 : Nat.min sn dn ≤ ls.length) (h2 : Nat.min sn dn ≤ ld.length) (hsp : spOk ss' so = true)
    (hx : VR S ρ (.slice (some ⟨d, 0, ds'⟩) dn dc) x) (hy : VR S ρ (.slice (some ⟨s, so, ss'⟩) sn sc) y) (hH : HR S ρ hp w) :
    ∃ u w1, (∀ t' type, (Builtin.copy_ #[t, t'] type #[x, y]).run E.P w = .ok u w1) ∧ Res S ρ hp w (.int .i64 (Nat.min sn dn : Nat)) (hp.set d (.ints k (ls.take (Nat.min sn dn) ++ ld.drop (Nat.min sn dn)) ty)) u w1 := by
  obtain ⟨i, hu, hi, hsz⟩ := elemSz_some hs
  obtain ⟨c1, rfl⟩ := slice_of hx (spOk_zero _)
  obtain ⟨c2, rfl⟩ := slice_of hy hsp
  obtain ⟨o1, ho1, hs1⟩ := hH.block hgd
  obtain ⟨o2, ho2, hs2⟩ := hH.block hgs (Blk.pres_row hrow)
  obtain ⟨r1, rfl⟩ := hs1 ρ (Ag.refl _ _)
  obtain ⟨cells2, ty2, fr2, rfl, hc2⟩ := Blk.sat_row hrow hq (hs2 ρ (Ag.refl _ _))
  have hrun := fun t' type => run_copy_row (P := E.P) w t t' type e (ρ d) 0 dn c1 ⟨ρ s, so, none⟩ sn c2 _ ty ((ls.take (Nat.min sn dn)).map (.int k)) hu (by simp [hi, hsz]) ho1 (by simp only [List.length_map, List.length_take]; omega)
    (fun j v hv => by
      rw [Addr.add_mid, cell_of ho2]
      simp only [List.getElem?_map, List.getElem?_take] at hv
      split at hv
      · exact hc2 j v (by rw [List.getElem?_map]; exact hv)
      · cases hv) (by simp only [List.length_map, List.length_take, List.size_toArray, List.length_append]; omega) (int_oneCell _ _)
  have hl : (List.map (Value.int k) (List.take (Nat.min sn dn) ls)).length = Nat.min sn dn := by simp only [List.length_map, List.length_take]; omega
  refine ⟨_, _, hrun, ?_⟩
  refine Res.setRow (b' := .ints k (ls.take (Nat.min sn dn) ++ ld.drop (Nat.min sn dn)) ty) rfl rfl hH hgd ho1 (fun ρ' _ => ?_) (fun _ _ => ?_)
  · refine ⟨r1, ?_⟩
    congr 1
    show List.toArray _ = List.toArray _
    congr 1
    simp only [List.take_zero, List.nil_append, Nat.zero_add, hl]
    rw [List.drop_append_of_le_length (by simpa using h2), List.map_append, List.map_drop, List.append_assoc]
  · rw [hl]
    rfl
end
end Go.Proofs.YtocfhiafegkfkaaGreat.Ev
namespace Go.Proofs.YtocfhiafegkfkaaGreat.Ev
open Go Go.RowKit

def Blk.row : Blk → List Value
  | .ints k l _ => l.map (.int k)
  | .recs ks l _ => l.flatMap (rowV ks)
  | _ => []
def Blk.ty : Blk → TypeId
  | .ints _ _ t => t
  | .recs _ _ t => t
  | .bools _ t => t
  | .cells _ t => t
  | .own b _ => b.ty
  | .view _ b => b.ty
  | .opt _ _ _ => 0
/-- Rows of numbers, and of records. -/
def Blk.plain : Blk → Prop
  | .ints _ _ _ | .recs _ _ _ => True
  | _ => False
theorem Blk.sat_plain {ρ : Nat → Nat} {b : Blk} {o : Obj} (hp : b.plain) : b.sat ρ o ↔ ∃ r, o = .cells ⟨b.row ++ r⟩ b.ty (0, 0) := by
  cases b <;> first | exact Iff.rfl | exact hp.elim
theorem row_length {b : Blk} (hp : b.plain) : b.row.length = b.len * b.esz := by
  cases b with
  | ints k l ty => simp [Blk.row, Blk.len, Blk.esz]
  | recs ks l ty =>
    simp only [Blk.row, Blk.len, Blk.esz]
    induction l with
    | nil => simp
    | cons x l ih => simp only [List.flatMap_cons, List.length_append, rowV_length, List.length_cons, Nat.succ_mul]; rw [ih trivial]; omega
  | _ => exact hp.elim
theorem row_oneCell {b : Blk} : ∀ v ∈ b.row, v.oneCell' = true := by
  cases b with
  | ints k l ty => exact int_oneCell k l
  | recs ks l ty =>
    intro v hv
    simp only [Blk.row, List.mem_flatMap] at hv
    obtain ⟨x, _, hx⟩ := hv
    have : ∀ (ks : List IntKind) (x : List Int), ∀ v ∈ rowV ks x, v.oneCell' = true := by
      intro ks
      induction ks with
      | nil => intro x v hv; simp [rowV] at hv
      | cons k ks ih =>
        intro x v hv
        cases x with
        | nil =>
          simp only [rowV, List.mem_cons] at hv
          rcases hv with rfl | hv
          · rfl
          · exact ih _ _ hv
        | cons y ys =>
          simp only [rowV, List.mem_cons] at hv
          rcases hv with rfl | hv
          · rfl
          · exact ih _ _ hv
    exact this ks x v hx
  | _ => intro v hv; simp [Blk.row] at hv

theorem eqKs_eq : ∀ {a b : List IntKind}, eqKs a b = true → a = b
  | [], [], _ => rfl
  | [], _ :: _, h => by simp [eqKs] at h
  | _ :: _, [], h => by simp [eqKs] at h
  | k :: ks, k' :: ks', h => by
    simp only [eqKs] at h
    split at h
    · rename_i e; rw [e, eqKs_eq h]
    · cases h
theorem catB_some {b b' b2 : Blk} (h : catB b b' = some b2) : b.plain ∧ b'.plain ∧ b2.plain ∧ b2.row = b.row ++ b'.row ∧ b2.esz = b.esz ∧ b2.len = b.len + b'.len ∧ b2.ty = b.ty := by
  cases b <;> cases b' <;> simp only [catB, reduceCtorEq] at h
  · split at h
    · rename_i e
      subst e
      obtain rfl := Option.some.inj h
      exact ⟨trivial, trivial, trivial, by simp [Blk.row], rfl, by simp [Blk.len], rfl⟩
    · cases h
  · rename_i ks l ty ks' l' ty'
    cases hk : eqKs ks ks'
    · simp only [hk, cond_false, reduceCtorEq] at h
    · simp only [hk, cond_true] at h
      obtain rfl := eqKs_eq hk
      obtain rfl := Option.some.inj h
      exact ⟨trivial, trivial, trivial, by simp [Blk.row], rfl, by simp [Blk.len], rfl⟩

theorem parseI_some : ∀ {k : IntKind} {cs : List Value} {l : List Int}, parseI k cs = some l → cs = l.map (.int k)
  | k, [], l, h => by simp only [parseI, Option.some.injEq] at h; subst h; rfl
  | k, v :: r, l, h => by
    cases v <;> simp only [parseI, reduceCtorEq] at h
    split at h
    · rename_i e
      subst e
      split at h
      · rename_i l' hl
        obtain rfl := Option.some.inj h
        rw [parseI_some hl]
        rfl
      · cases h
    · cases h
theorem parseO_some : ∀ {ks : List IntKind} {cs r : List Value} {x : List Int}, parseO ks cs = some (x, r) → cs = rowV ks x ++ r
  | [], cs, r, x, h => by simp only [parseO, Option.some.injEq, Prod.mk.injEq] at h; obtain ⟨rfl, rfl⟩ := h; rfl
  | k :: ks, [], r, x, h => by simp [parseO] at h
  | k :: ks, v :: cs, r, x, h => by
    cases v <;> simp only [parseO, reduceCtorEq] at h
    split at h
    · rename_i e
      subst e
      split at h
      · rename_i l r' hl
        simp only [Option.some.injEq, Prod.mk.injEq] at h
        obtain ⟨rfl, rfl⟩ := h
        rw [parseO_some hl]
        rfl
      · cases h
    · cases h
theorem parseR_some : ∀ {ks : List IntKind} {n : Nat} {cs : List Value} {l : List (List Int)}, parseR ks n cs = some l → cs = l.flatMap (rowV ks)
  | ks, 0, [], l, h => by simp only [parseR, Option.some.injEq] at h; subst h; rfl
  | ks, 0, _ :: _, l, h => by simp [parseR] at h
  | ks, n + 1, cs, l, h => by
    simp only [parseR] at h
    split at h
    · rename_i x r hx
      split at h
      · rename_i xs hxs
        obtain rfl := Option.some.inj h
        rw [parseO_some hx, parseR_some hxs]
        simp
      · cases h
    · cases h

section
variable {E : Env} {S : Nat → Prop} {ρ : Nat → Nat} {hp : Hp} {w : World}
theorem map_ren_row {b : Blk} (hp : b.plain) (ρ : Nat → Nat) : b.row.map (ren ρ) = b.row := by
  cases b with
  | ints k l t =>
    simp only [Blk.row, List.map_map]
    rfl
  | recs ks l t =>
    simp only [Blk.row, List.map_flatMap]
    congr 1
    funext x
    exact map_ren_rowV ρ ks x
  | _ => exact hp.elim


/-- What is appended to. -/
theorem appBase_some {e : TypeId} {kn : Bool × List IntKind} {x x' : Value} {ns : List Nat} {len : Nat} {b : Blk} {pc : List Prop} (h : appBase hp e kn x = some (ns, len, b, pc)) (hpc : ∀ p ∈ pc, p)
    (hx : VR S ρ x x') (hH : HR S ρ hp w) (hbp : b.plain) : len = b.len ∧ b.ty = e ∧ w.ownsRow 0 e b.esz x' len b.row ∧ ((ns = [] ∧ x' = .slice none 0 0) ∨ ∃ n b0, ns = [n] ∧ hp.get n = some b0 ∧ ∃ c, b0.isV = false ∧ x' = .slice (some ⟨ρ n, 0, none⟩) len c) := by
  have hnew : (emptyB e kn).len = 0 ∧ (emptyB e kn).ty = e ∧ (emptyB e kn).row = [] := by
    obtain ⟨f, ks⟩ := kn
    cases f <;> cases ks <;> exact ⟨rfl, rfl, rfl⟩
  unfold appBase at h
  split at h
  · simp only [Option.some.injEq, Prod.mk.injEq] at h
    obtain ⟨rfl, rfl, rfl, rfl⟩ := h
    obtain ⟨h1, h2, h3⟩ := hnew
    obtain rfl : x' = .slice none 0 0 := hx.self
    refine ⟨h1.symm, h2, ?_, .inl ⟨rfl, rfl⟩⟩
    rw [h3]
    exact World.ownsRow_nil _ _ _ _
  · rename_i n
    split at h
    · rename_i ty hg
      cases ht : Nat.beq ty e
      · simp only [ht, cond_false, reduceCtorEq] at h
      · simp only [ht, cond_true, Option.some.injEq, Prod.mk.injEq] at h
        obtain rfl := beq_nat ht
        obtain ⟨rfl, rfl, rfl, rfl⟩ := h
        obtain ⟨h1, h2, h3⟩ := hnew
        obtain rfl : x' = .slice (some ⟨ρ n, 0, none⟩) 0 0 := hx.self
        obtain ⟨o, ho, hs⟩ := hH.block hg
        have hs0 : o = .cells ⟨[]⟩ ty (0, 0) := hs ρ (Ag.refl _ _)
        subst hs0
        refine ⟨h1.symm, h2, ?_, .inr ⟨n, _, rfl, hg, 0, rfl, rfl⟩⟩
        rw [h3]
        exact ⟨by simp, .inr ⟨ρ n, 0, ⟨[]⟩, rfl, Nat.zero_le _, ho, Nat.le_refl _, Nat.zero_le _, by simp, by simp⟩⟩
    · cases h
  · rename_i n c len0
    split at h
    · rename_i b0 c' hg
      cases hc : Nat.beq c' c
      · simp only [hc, cond_false, reduceCtorEq] at h
      · simp only [hc, cond_true] at h
        obtain rfl := beq_nat hc
        obtain rfl : x' = .slice (some ⟨ρ n, 0, none⟩) len0 (ρ c') := hx.self
        obtain ⟨o, ho, hs⟩ := hH.block hg
        have key : ∀ b1 : Blk, b0 = b1 → b1.plain → b1.ty = e → len0 = b1.len → w.ownsRow 0 e b1.esz (.slice (some ⟨ρ n, 0, none⟩) len0 (ρ c')) len0 b1.row := by
          rintro b1 rfl hp1 hty hlen
          obtain ⟨h1, h2, h3, h4⟩ := hs ρ (Ag.refl _ _)
          obtain ⟨r, rfl⟩ := (Blk.sat_plain hp1).1 h1
          rw [hty] at ho
          refine ⟨by rw [row_length hp1, hlen], .inr ⟨ρ n, ρ c', _, rfl, Nat.zero_le _, ho, by omega, h4, h2, ?_⟩⟩
          rw [hlen, ← row_length hp1]
          exact List.take_left
        split at h
        · rename_i k l ty
          cases ht : Nat.beq ty e
          · simp only [ht, cond_false, reduceCtorEq] at h
          · simp only [ht, cond_true, Option.some.injEq, Prod.mk.injEq] at h
            obtain ⟨rfl, rfl, rfl, rfl⟩ := h
            have hl : len0 = l.length := hpc _ (by simp)
            exact ⟨hl, beq_nat ht, key _ rfl trivial (beq_nat ht) hl, .inr ⟨n, _, rfl, hg, _, rfl, rfl⟩⟩
        · rename_i ks l ty
          cases ht : Nat.beq ty e
          · simp only [ht, cond_false, reduceCtorEq] at h
          · simp only [ht, cond_true, Option.some.injEq, Prod.mk.injEq] at h
            obtain ⟨rfl, rfl, rfl, rfl⟩ := h
            have hl : len0 = l.length := hpc _ (by simp)
            exact ⟨hl, beq_nat ht, key _ rfl trivial (beq_nat ht) hl, .inr ⟨n, _, rfl, hg, _, rfl, rfl⟩⟩
        · cases h
    · cases h
  · rename_i n len0 cap _
    split at h
    · rename_i cs ty hg
      cases hc : (Nat.beq ty e && Nat.beq len0 cap)
      · simp only [hc, cond_false, reduceCtorEq] at h
      · simp only [hc, cond_true] at h
        simp only [Bool.and_eq_true] at hc
        obtain rfl := beq_nat hc.2
        have hty := beq_nat hc.1
        obtain rfl : x' = .slice (some ⟨ρ n, 0, none⟩) len0 len0 := hx.self
        obtain ⟨o, ho, hs⟩ := hH.block hg
        have key : ∀ b1 : Blk, b1.plain → cs = b1.row → len0 = b1.len → len0 ≤ 9223372036854775807 → w.ownsRow 0 e b1.esz (.slice (some ⟨ρ n, 0, none⟩) len0 len0) len0 b1.row := by
          intro b1 hp1 hrow hlen hmax
          have hs0 : o = .cells ⟨cs.map (ren ρ)⟩ ty (0, 0) := hs ρ (Ag.refl _ _)
          have hmap : cs.map (ren ρ) = b1.row := by
            rw [hrow]
            exact map_ren_row hp1 ρ
          rw [hmap] at hs0
          subst hs0
          rw [hty] at ho
          have hl := row_length hp1
          rw [← hlen] at hl
          refine ⟨hl, .inr ⟨ρ n, len0, _, rfl, Nat.zero_le _, ho, Nat.le_refl _, hmax, by simpa using hl, ?_⟩⟩
          rw [← hl]
          exact List.take_length
        split at h
        · rename_i k
          split at h
          · rename_i l hl
            cases hq : Nat.beq l.length len0
            · simp only [hq, cond_false, reduceCtorEq] at h
            · simp only [hq, cond_true, Option.some.injEq, Prod.mk.injEq] at h
              obtain ⟨rfl, rfl, rfl, rfl⟩ := h
              have hlen := (beq_nat hq).symm
              exact ⟨hlen, hty, key (.ints k l ty) trivial (parseI_some hl) hlen (hpc _ (by simp)), .inr ⟨n, _, rfl, hg, _, rfl, rfl⟩⟩
          · cases h
        · rename_i ks
          split at h
          · rename_i l hl
            cases hq : Nat.beq l.length len0
            · simp only [hq, cond_false, reduceCtorEq] at h
            · simp only [hq, cond_true, Option.some.injEq, Prod.mk.injEq] at h
              obtain ⟨rfl, rfl, rfl, rfl⟩ := h
              have hlen := (beq_nat hq).symm
              exact ⟨hlen, hty, key (.recs ks l ty) trivial (parseR_some hl) hlen (hpc _ (by simp)), .inr ⟨n, _, rfl, hg, _, rfl, rfl⟩⟩
          · cases h
        · cases h
    · cases h
  · cases h

/-- What is appended. -/
theorem appSrc_some {kn : Bool × List IntKind} {y y' : Value} {s m : Nat} {b : Blk} {pc : List Prop} {lit : Bool} (h : appSrc hp kn y = some (s, m, b, pc, lit)) (hpc : ∀ p ∈ pc, p)
    (hy : VR S ρ y y') (hH : HR S ρ hp w) : m = b.len ∧ (lit = true → 0 < m) ∧ ∃ so c, y' = .slice (some ⟨ρ s, so, none⟩) m c ∧ ∀ (j : Nat) u, b.row[j]? = some u → w.cell? ((⟨ρ s, so, none⟩ : Addr).add j) = some u := by
  unfold appSrc at h
  split at h
  · rename_i s0 so sp m0 c0
    cases hsp : spOk sp so
    · simp [hsp] at h
    simp only [hsp, Bool.not_true, cond_false] at h
    obtain ⟨c', rfl⟩ := slice_of hy hsp
    have row : ∀ k l sb q, hp.get s0 = some sb → rowI so sb = some (k, l, q) → q → ∀ (j : Nat) u, ((l.take m0).map (Value.int k))[j]? = some u → w.cell? ((⟨ρ s0, so, none⟩ : Addr).add j) = some u := by
      intro k l sb q hg hr hq j u hu
      obtain ⟨o, ho, hs⟩ := hH.block hg (Blk.pres_row hr)
      obtain ⟨cells, ty, fr, rfl, hc⟩ := Blk.sat_row hr hq (hs ρ (Ag.refl _ _))
      rw [Addr.add_mid, cell_of ho]
      simp only [List.getElem?_map, List.getElem?_take] at hu
      split at hu
      · exact hc j u (by rw [List.getElem?_map]; exact hu)
      · cases hu
    have lit_ : ∀ cs ty, hp.get s0 = some (.cells cs ty) → ∀ (bb : Blk), so = 0 → cs = bb.row → ∀ (j : Nat) u, bb.row[j]? = some u → w.cell? ((⟨ρ s0, so, none⟩ : Addr).add j) = some u := by
      intro cs ty hg bb hz e j u hu
      subst hz
      obtain ⟨o, ho, hs⟩ := hH.block hg
      have hs0 : o = .cells ⟨cs.map (ren ρ)⟩ ty (0, 0) := hs ρ (Ag.refl _ _)
      subst hs0
      rw [Addr.add_mid, Nat.zero_add, cell_of ho]
      simp only [List.getElem?_toArray, List.getElem?_map, e, hu, Option.map_some]
      congr 1
      have hm := List.mem_of_getElem? hu
      have hc : ∀ v ∈ bb.row, ren ρ v = v := by
        cases bb with
        | ints k l t => intro v hv; obtain ⟨x, _, rfl⟩ := List.mem_map.1 hv; rfl
        | recs ks l t =>
          intro v hv
          simp only [Blk.row, List.mem_flatMap] at hv
          obtain ⟨x, _, hx⟩ := hv
          have := map_ren_rowV ρ ks x
          obtain ⟨i, hi⟩ := List.mem_iff_getElem?.1 hx
          have q : ((rowV ks x).map (ren ρ))[i]? = (rowV ks x)[i]? := by rw [this]
          rw [List.getElem?_map, hi] at q
          exact Option.some.inj q
        | _ => intro v hv; simp [Blk.row] at hv
      exact hc u hm
    split at h
    · rename_i k l ty hg
      simp only [Option.some.injEq, Prod.mk.injEq] at h
      obtain ⟨rfl, rfl, rfl, rfl, rfl⟩ := h
      have hl : m0 ≤ l.length := hpc _ (by simp)
      exact ⟨by simp [Blk.len]; omega, by simp, so, c', rfl, row k l _ _ hg rfl (hpc _ (by simp))⟩
    · rename_i k l ty q hg
      simp only [Option.some.injEq, Prod.mk.injEq] at h
      obtain ⟨rfl, rfl, rfl, rfl, rfl⟩ := h
      have hl : m0 ≤ l.length := hpc _ (by simp)
      exact ⟨by simp [Blk.len]; omega, by simp, so, c', rfl, row k l _ _ hg rfl (hpc _ (by simp))⟩
    · rename_i off k l ty hg
      simp only [Option.some.injEq, Prod.mk.injEq] at h
      obtain ⟨rfl, rfl, rfl, rfl, rfl⟩ := h
      have hl : m0 ≤ l.length := hpc _ (by simp)
      exact ⟨by simp [Blk.len]; omega, by simp, so, c', rfl, row k l _ _ hg rfl (hpc _ (by simp))⟩
    · rename_i cs ty hg
      cases hz : Nat.beq so 0
      · simp only [hz, Bool.not_false, cond_true, reduceCtorEq] at h
      simp only [hz, Bool.not_true, cond_false] at h
      have hz := beq_nat hz
      split at h
      · rename_i k
        split at h
        · rename_i l hl
          cases hc : Nat.beq l.length m0
          · simp only [hc, cond_false, reduceCtorEq] at h
          · simp only [hc, cond_true, Option.some.injEq, Prod.mk.injEq] at h
            obtain ⟨rfl, rfl, rfl, rfl, rfl⟩ := h
            exact ⟨(beq_nat hc).symm, by simp, so, c', rfl, lit_ cs ty hg (.ints k l ty) hz (parseI_some hl)⟩
        · cases h
      · rename_i ks
        split at h
        · rename_i l hl
          cases hc : Nat.beq l.length m0
          · simp only [hc, cond_false, reduceCtorEq] at h
          · simp only [hc, cond_true, Option.some.injEq, Prod.mk.injEq] at h
            obtain ⟨rfl, rfl, rfl, rfl, rfl⟩ := h
            exact ⟨(beq_nat hc).symm, by simp, so, c', rfl, lit_ cs ty hg (.recs ks l ty) hz (parseR_some hl)⟩
        · cases h
      · cases h
    · cases h
  · cases h

/-- Where the appended row lies. -/
theorem append_run {t ty e : TypeId} {i : TypeInfo} {z : Value} {size : Nat} (ht : E.P.underlying t = some (.slice e)) (hi : E.P.info? e = some i) (hz : i.zero = some z) (hsize : i.size = size) (hzs : z.cells.size = size) (hsz : 0 < size)
    {v : Value} {n : Nat} {xs : List Value} (hown : w.ownsRow 0 e size v n xs) {a : Addr} {m c : Nat} {news : List Value} (hl : news.length = m * size) (hnews : ∀ j u, news[j]? = some u → w.cell? (a.add j) = some u)
    (h1 : ∀ u ∈ news, u.oneCell' = true) (h63 : n + m ≤ 9223372036854775807) (hbytes : (n + m) * i.bytes ≤ 140737488355328) (hne : v ≠ .slice none 0 0 ∨ 0 < m) :
    ∃ g' cap' w', (Builtin.append_ #[t, t] ty #[v, .slice (some a) m c]).run E.P w = .ok (.slice (some ⟨g', 0, none⟩) (n + m) cap') w' ∧ w'.ownsRow 0 e size (.slice (some ⟨g', 0, none⟩) (n + m) cap') (n + m) (xs ++ news) ∧
      w.grownBy w' v.ownBlock ∧ (v.ownBlock = some g' ∨ w.heap.size ≤ g') := by
  obtain ⟨v', w', hr, ho, hg, hn⟩ := run_append_own (P := E.P) w 0 t ty e i z size i.bytes ht hi hz hsize rfl hzs hsz v n xs hown a m c news hl hnews h1 (by simpa [maxLen] using h63) hbytes (Nat.zero_le _)
  rcases hown.2 with ⟨hv, h0⟩ | ⟨g, cap, cur, hv, _, hgg, hnc, hcm, hcs, htake⟩
  · have hm : 0 < m := hne.resolve_left (fun e => e hv)
    subst hv
    subst h0
    have h2 := run_append_nil (P := E.P) w t ty e i z ht hi hz a m c news (by rw [hsize]; exact hl) hnews hm (by omega) (by simp only [Nat.zero_add] at hbytes; omega)
    rw [hr] at h2
    injection h2 with e1 e2
    subst e1
    refine ⟨w.heap.size, _, w', by rw [hr, Nat.zero_add], by simpa using ho, hg, .inr (Nat.le_refl _)⟩
  · subst hv
    by_cases hroom : n + m ≤ cap
    · have hfit : n * i.size + news.length ≤ cur.size := by rw [hl, hcs, hsize, ← Nat.add_mul]; exact Nat.mul_le_mul_right _ hroom
      have h2 := run_append_room (P := E.P) w t ty e i ht hi g n cap cur hgg a m c news (by rw [hsize]; exact hl) hnews h1 hroom hfit
      rw [hr] at h2
      injection h2 with e1 e2
      subst e1
      exact ⟨g, cap, w', hr, ho, hg, .inl rfl⟩
    · have holds : ∀ j u, xs[j]? = some u → w.cell? ((⟨g, 0, none⟩ : Addr).add j) = some u := hown.cells (g := g) rfl
      have h2 := run_append_grow (P := E.P) w t ty e i z ht hi hz ⟨g, 0, none⟩ n cap xs (by rw [hsize]; exact hown.1) holds a m c news (by rw [hsize]; exact hl) hnews (by omega) (by omega) (growslice_fits (by omega) hbytes)
      rw [hr] at h2
      injection h2 with e1 e2
      subst e1
      exact ⟨w.heap.size, _, w', hr, ho, hg, .inr (Nat.le_refl _)⟩
end
end Go.Proofs.YtocfhiafegkfkaaGreat.Ev
namespace Go.Proofs.YtocfhiafegkfkaaGreat.Ev
open Go Go.RowKit

section
variable {E : Env} {S : Nat → Prop} {ρ : Nat → Nat} {hp : Hp} {w : World}

theorem sound_append {t type : TypeId} {x y x' y' : Value} {ds : List Dec} {out : Out} (h : aappend E t x y hp ds = some out) (hpc : ∀ p ∈ out.pc, p)
    (hx : VR S ρ x x') (hy : VR S ρ y y') (hH : HR S ρ hp w) (hF : NF S hp out.hp) : ∃ u w1, (Builtin.append_ #[t, t] type #[x', y']).run E.P w = .ok u w1 ∧ Res S ρ hp w out.v out.hp u w1 := by
  unfold aappend at h
  split at h
  · rename_i e sz hs
    obtain ⟨i, hu, hi, hsz⟩ := elemSz_some hs
    split at h
    · rename_i kn hkn
      cases hks : Nat.beq kn.2.length sz
      · simp only [hks, cond_false, reduceCtorEq] at h
      · simp only [hks, cond_true] at h
        split at h
        · rename_i j hj
          rw [hi] at hj
          obtain rfl := Option.some.inj hj
          split at h
          · rename_i zc hzc
            obtain ⟨i', zv, hi', hz, hzc', hclo⟩ := zcells_some hzc
            rw [hi] at hi'
            obtain rfl := Option.some.inj hi'
            cases hzl : Nat.beq zc.length sz
            · simp only [hzl, Bool.not_false, cond_true, reduceCtorEq] at h
            · simp only [hzl, Bool.not_true, cond_false] at h
              split at h
              · rename_i ns len b pcb s m b' pcs lit hb hsrc
                split at h
                · rename_i b2 hcat
                  cases hck : (!(has s ns) && (lit || !(ns.isEmpty)) && Nat.beq b.esz sz && Nat.beq b'.esz sz && Nat.blt 0 sz)
                  · simp only [hck, cond_false, reduceCtorEq] at h
                  · simp only [hck, cond_true, Option.some.injEq] at h
                    subst h
                    simp only [Bool.and_eq_true, Bool.not_eq_true', Bool.or_eq_true] at hck
                    obtain ⟨⟨⟨⟨hsn, hlit⟩, he1⟩, he2⟩, hpos⟩ := hck
                    have he1 := beq_nat he1
                    have he2 := beq_nat he2
                    have hpos : 0 < sz := by simp [Nat.blt] at hpos; omega
                    obtain ⟨hbp, hbp', hbp2, hrow, hesz, hlen2, hty2⟩ := catB_some hcat
                    simp only [List.mem_append] at hpc
                    obtain ⟨hlen, hty, hown, hbase⟩ := appBase_some hb (fun p hp => hpc p (.inl (.inl hp))) hx hH hbp
                    obtain ⟨hm, hlitm, so, c, rfl, hnews⟩ := appSrc_some hsrc (fun p hp => hpc p (.inl (.inr hp))) hy hH
                    have hb1 : (len + m) * i.bytes ≤ 140737488355328 := hpc _ (.inr (by simp))
                    have hb2 : len + m ≤ 9223372036854775807 := hpc _ (.inr (by simp))
                    have hnl : b'.row.length = m * sz := by rw [row_length hbp', hm, he2]
                    rw [he1] at hown
                    have hne : x' ≠ .slice none 0 0 ∨ 0 < m := by
                      rcases hbase with ⟨rfl, _⟩ | ⟨n, b0, rfl, _, c0, _, rfl⟩
                      · rcases hlit with hl | hl
                        · exact .inr (hlitm hl)
                        · simp at hl
                      · exact .inl (by simp)
                    obtain ⟨g', cap', w', hr, hown', hgr, hg'⟩ := append_run (E := E) (ty := type) hu hi hz hsz (by rw [cells_eq, hzc']; exact beq_nat hzl) hpos hown hnl hnews row_oneCell hb2 hb1 hne
                    refine ⟨_, w', hr, ?_⟩
                    let ρ1 : Nat → Nat := fun k => if k = hp.next then g' else if k = hp.next + 1 then cap' else ρ k
                    have hS0 : ¬ S hp.next := hF hp.next (Nat.le_refl _) (by simp)
                    have hS1 : ¬ S (hp.next + 1) := hF (hp.next + 1) (by omega) (by simp)
                    have r0 : ρ1 hp.next = g' := if_pos rfl
                    have r1 : ρ1 (hp.next + 1) = cap' := by show (if _ then _ else _) = _; rw [if_neg (by omega), if_pos rfl]
                    have r2 : ∀ k, S k → ρ1 k = ρ k := fun k hk => by
                      show (if _ then _ else _) = _
                      rw [if_neg (fun (e : k = hp.next) => hS0 (e ▸ hk)), if_neg (fun (e : k = hp.next + 1) => hS1 (e ▸ hk))]
                    let hp1 : Hp := ⟨(hp.next, .own b2 (hp.next + 1)) :: delB ns hp.blks, hp.next + 2, ns ++ hp.log⟩
                    have hget : ∀ k c, hp1.get k = some c → (k = hp.next ∧ c = .own b2 (hp.next + 1)) ∨ (k ≠ hp.next ∧ has k ns = false ∧ hp.get k = some c) := fun k c hc => by
                      simp only [hp1, Hp.get, lookB, lookB_del] at hc
                      cases hk : Nat.beq hp.next k
                      · simp only [hk, cond_false] at hc
                        split at hc
                        · cases hc
                        · rename_i hn
                          exact .inr ⟨(bne_nat hk).symm, by simpa using hn, hc⟩
                      · simp only [hk, cond_true, Option.some.injEq] at hc
                        exact .inl ⟨(beq_nat hk).symm, hc.symm⟩
                    have s0 : SN S hp hp1 hp.next := .inr ⟨Nat.le_refl _, by simp [hp1]⟩
                    have s1 : SN S hp hp1 (hp.next + 1) := .inr ⟨by omega, by simp [hp1]⟩
                    have hother : ∀ k c, has k ns = false → hp.get k = some c → c.pres = true → some (ρ k) ≠ x'.ownBlock := fun k c hk hc hcp => by
                      rcases hbase with ⟨rfl, rfl⟩ | ⟨n, b0, rfl, hn, c0, hnv, rfl⟩
                      · simp [Value.ownBlock]
                      · simp only [Value.ownBlock, ne_eq, Option.some.injEq]
                        intro e
                        rcases hH.inj k n c b0 hc hn hcp (Blk.pres_of hnv) e with h | ⟨_, h⟩
                        · subst h
                          simp [has] at hk
                        · rw [hnv] at h; cases h
                    refine ⟨ρ1, r2, ⟨fun ρ' ha k c hc hcp => ?_, fun k c hc => ?_, fun k k' c c' hc hc' hcp hcp' he => ?_⟩, fun ρ' ha => ?_, ⟨hgr.os, hgr.tape, hgr.output, hgr.size, fun k hk hn => ?_, fun k c hc hcp => ?_⟩⟩
                    · have haS : Ag S ρ ρ' := fun k hk => (ha k (.inl hk)).trans (r2 k hk)
                      rcases hget k c hc with ⟨rfl, rfl⟩ | ⟨hk, hkn, hc⟩
                      · rw [r0]
                        obtain ⟨_, hcase⟩ := hown'
                        rcases hcase with ⟨e, _⟩ | ⟨g2, cap2, cur, e, _, hh, hle, hmx, hcs, htk⟩
                        · cases e
                        · injection e with e1 _ e2
                          injection e1 with e1
                          injection e1 with e1
                          subst e1
                          subst e2
                          have hρ : ρ' (hp.next + 1) = cap' := (ha _ s1).trans r1
                          refine ⟨_, hh, (Blk.sat_plain hbp2).2 ⟨cur.toList.drop ((len + m) * sz), ?_⟩, ?_, ?_, ?_⟩
                          · rw [hrow, ← htk, List.take_append_drop, hty2, hty]
                          · rw [hρ, hesz, he1]; exact hcs
                          · rw [hρ, hlen2]; omega
                          · rw [hρ]; exact hmx
                      · obtain ⟨o, ho, hs'⟩ := hH.sat ρ' haS k c hc hcp
                        refine ⟨o, ?_, hs'⟩
                        rw [r2 k (hH.dom k c hc), hgr.block _ (hH.lt hc hcp) (hother k c hkn hc hcp)]
                        exact ho
                    · rcases hget k c hc with ⟨rfl, rfl⟩ | ⟨hk, hkn, hc⟩
                      · exact s0
                      · exact .inl (hH.dom k c hc)
                    · have cross : ∀ k c, has k ns = false → hp.get k = some c → c.pres = true → ρ k ≠ g' := fun k c hkn hc hcp e => by
                        rcases hg' with hg' | hg'
                        · exact hother k c hkn hc hcp (by rw [e, hg'])
                        · have := hH.lt hc hcp; omega
                      rcases hget k c hc with ⟨rfl, rfl⟩ | ⟨hk, hkn, hc⟩ <;> rcases hget k' c' hc' with ⟨rfl, rfl⟩ | ⟨hk', hkn', hc'⟩
                      · exact .inl rfl
                      · rw [r0, r2 k' (hH.dom k' c' hc')] at he
                        exact absurd he.symm (cross k' c' hkn' hc' hcp')
                      · rw [r0, r2 k (hH.dom k c hc)] at he
                        exact absurd he (cross k c hkn hc hcp)
                      · rw [r2 k (hH.dom k c hc), r2 k' (hH.dom k' c' hc')] at he
                        exact hH.inj k k' c c' hc hc' hcp hcp' he
                    · have e0 : ρ' hp.next = g' := (ha _ s0).trans r0
                      have e1 : ρ' (hp.next + 1) = cap' := (ha _ s1).trans r1
                      simp [ren, capOff, e0, e1, addN_eq]
                    · refine hgr.block k hk ?_
                      rcases hbase with ⟨rfl, rfl⟩ | ⟨n, b0, rfl, hn', c0, hnv, rfl⟩
                      · simp [Value.ownBlock]
                      · simp only [Value.ownBlock, ne_eq, Option.some.injEq]
                        exact fun e => hn n b0 hn' hnv e.symm
                    · rcases hget k c hc with ⟨rfl, rfl⟩ | ⟨hk, hkn, hc⟩
                      · rw [r0]
                        rcases hg' with hg' | hg'
                        · rcases hbase with ⟨rfl, rfl⟩ | ⟨n, b0, rfl, hn', c0, hnv, rfl⟩
                          · simp [Value.ownBlock] at hg'
                          · simp only [Value.ownBlock, Option.some.injEq] at hg'
                            exact .inl ⟨n, b0, hn', Blk.pres_of hnv, hnv, hg'.symm⟩
                        · exact .inr hg'
                      · exact .inl ⟨k, c, hc, hcp, rfl, r2 k (hH.dom k c hc)⟩
                · cases h
              · cases h
          · cases h
        · cases h
    · cases h
  · cases h
end
end Go.Proofs.YtocfhiafegkfkaaGreat.Ev
namespace Go.Proofs.YtocfhiafegkfkaaGreat.Ev
open Go Go.RowKit

section
variable {E : Env} {S : Nat → Prop} {ρ : Nat → Nat} {hp : Hp} {w : World}

theorem aappend_keep {t : TypeId} {x y : Value} {ds : List Dec} {out : Out} (h : aappend E t x y hp ds = some out) : Keep hp out.hp := by
  unfold aappend at h
  split at h
  · rename_i e sz hs
    split at h
    · rename_i kn hkn
      cases hks : Nat.beq kn.2.length sz
      · simp only [hks, cond_false, reduceCtorEq] at h
      · simp only [hks, cond_true] at h
        split at h
        · split at h
          · rename_i zc hzc
            cases hzl : Nat.beq zc.length sz
            · simp only [hzl, Bool.not_false, cond_true, reduceCtorEq] at h
            · simp only [hzl, Bool.not_true, cond_false] at h
              split at h
              · rename_i ns len b pcb s m b' pcs lit hb hsrc
                split at h
                · rename_i b2 hcat
                  cases hck : (!(has s ns) && (lit || !(ns.isEmpty)) && Nat.beq b.esz sz && Nat.beq b'.esz sz && Nat.blt 0 sz)
                  · simp only [hck, cond_false, reduceCtorEq] at h
                  · simp only [hck, cond_true, Option.some.injEq] at h
                    subst h
                    refine ⟨by simp, fun k hk hl => List.mem_append.2 (.inr hl), fun k hk hl => ?_⟩
                    simp only [Hp.get, lookB, lookB_del]
                    rw [show Nat.beq hp.next k = false from by
                      cases hq : Nat.beq hp.next k
                      · rfl
                      · have := beq_nat hq; omega]
                    simp only [cond_false]
                    rw [if_neg (fun hh => hl (List.mem_append.2 (.inl (has_iff.1 hh))))]
                · cases h
              · cases h
          · cases h
        · cases h
    · cases h
  · cases h
theorem acopy_keep {t : TypeId} {d dn s so sn : Nat} {ds : List Dec} {out : Out} (h : acopy E t d dn s so sn hp ds = some out) : Keep hp out.hp := by
  unfold acopy at h
  split at h
  · split at h
    · split at h
      · split at h
        · obtain rfl := Option.some.inj h; exact Keep.set _ _ _
        · cases h
      · cases h
    · cases h
  · cases h
theorem abuiltin_keep {b : Builtin} {ats : List TypeId} {args : List Value} {ds : List Dec} {out : Out} (h : abuiltin E b ats args hp ds = some out) : Keep hp out.hp := by
  unfold abuiltin at h
  split at h
  · split at h
    · obtain rfl := Option.some.inj h; exact Keep.refl _
    · cases h
  · obtain rfl := Option.some.inj h; exact Keep.refl _
  · obtain rfl := Option.some.inj h; exact Keep.refl _
  · rename_i so sp _ _
    cases hsp : spOk sp so
    · simp [hsp] at h
    · simp only [hsp, cond_true] at h
      exact acopy_keep h
  · split at h
    · obtain rfl := Option.some.inj h; exact Keep.refl _
    · cases h
  · rename_i t t' _ _ _ _
    cases hb : Nat.beq t t'
    · simp only [hb, cond_false, reduceCtorEq] at h
    · simp only [hb, cond_true] at h
      split at h
      · obtain rfl := Option.some.inj h; exact Keep.refl _
      · cases h
  · rename_i t t' _ _ _
    cases hb : Nat.beq t t'
    · simp only [hb, cond_false, reduceCtorEq] at h
    · simp only [hb, cond_true] at h
      exact aappend_keep h
  · cases h

theorem abuiltin_sound {b : Builtin} {ats : List TypeId} {args cargs : List Value} {ds : List Dec} {out : Out} (h : abuiltin E b ats args hp ds = some out) (hpc : ∀ p ∈ out.pc, p)
    (hv : VRL S ρ args cargs) (hH : HR S ρ hp w) (hF : NF S hp out.hp) (type : TypeId) (consts : Array Bool) :
    ∃ u w1, (builtin b ⟨ats⟩ type consts ⟨cargs⟩).run E.P w = .ok (.value u) w1 ∧ Res S ρ hp w out.v out.hp u w1 := by
  unfold abuiltin at h
  split at h
  · split at h
    · rename_i t tl a n c xo el hu
      obtain rfl := Option.some.inj h
      obtain ⟨x', q, rfl, hx, hq⟩ := hv.cons
      obtain rfl := hq.nil
      have hx' : ∃ a' c', x' = .slice a' n c' := by cases a <;> exact ⟨_, _, hx.self⟩
      obtain ⟨a', c', rfl⟩ := hx'
      refine ⟨.int .i64 n, w, ?_, Res.same hH (fun _ _ => rfl)⟩
      simp [builtin, Builtin.len_, run_underlying hu, goInt]
    · cases h
  · rename_i k x k' y
    obtain rfl := Option.some.inj h
    obtain ⟨x', q, rfl, hx, hq⟩ := hv.cons
    obtain ⟨y', q2, rfl, hy, hq2⟩ := hq.cons
    obtain rfl := hq2.nil
    obtain rfl : x' = .int k x := hx.self
    obtain rfl : y' = .int k' y := hy.self
    refine ⟨_, w, ?_, Res.same hH (fun _ _ => rfl)⟩
    simp [builtin, Builtin.min_, Builtin.min2]
  · rename_i k x k' y
    obtain rfl := Option.some.inj h
    obtain ⟨x', q, rfl, hx, hq⟩ := hv.cons
    obtain ⟨y', q2, rfl, hy, hq2⟩ := hq.cons
    obtain rfl := hq2.nil
    obtain rfl : x' = .int k x := hx.self
    obtain rfl : y' = .int k' y := hy.self
    refine ⟨_, w, ?_, Res.same hH (fun _ _ => rfl)⟩
    simp [builtin, Builtin.max_, Builtin.max2]
  · obtain ⟨x', q, rfl, hx, hq⟩ := hv.cons
    obtain ⟨y', q2, rfl, hy, hq2⟩ := hq.cons
    obtain rfl := hq2.nil
    rename_i d dsp dn dc s so sp sn sc
    cases hsp : spOk sp so
    · simp [hsp] at h
    simp only [hsp, cond_true] at h
    unfold acopy at h
    split at h
    · rename_i hs
      split at h
      · rename_i hgd hgs
        split at h
        · rename_i hrow
          split at h
          · rename_i hk
            subst hk
            obtain rfl := Option.some.inj h
            obtain ⟨u, w1, hr, hres⟩ := sound_copy hs hgd hgs hrow (hpc _ (.tail _ (.tail _ (.head _)))) (hpc _ (.head _)) (hpc _ (.tail _ (.head _))) hsp hx hy hH
            exact ⟨u, w1, by simp [builtin, hr], hres⟩
          · cases h
        · cases h
      · cases h
    · cases h
  · split at h
    · rename_i hs
      obtain rfl := Option.some.inj h
      obtain ⟨x', q, rfl, hx, hq⟩ := hv.cons
      obtain ⟨y', q2, rfl, hy, hq2⟩ := hq.cons
      obtain rfl := hq2.nil
      obtain ⟨i, hu, hi, hsz⟩ := elemSz_some hs
      obtain ⟨c1, rfl⟩ := slice_of hx (spOk_zero _)
      obtain rfl : y' = .slice none 0 0 := hy.self
      refine ⟨.int .i64 0, w, ?_, Res.same hH (fun _ _ => rfl)⟩
      have := fun a sT dl => run_copy_nil (P := E.P) w _ sT type _ a dl c1 hu (by simp [hi])
      simp [builtin, this, goInt]
    · cases h
  · rename_i t t' b o n c
    cases hb : Nat.beq t t'
    · simp only [hb, cond_false, reduceCtorEq] at h
    · simp only [hb, cond_true] at h
      obtain rfl := beq_nat hb
      split at h
      · rename_i es hs
        obtain rfl := Option.some.inj h
        obtain ⟨x', q, rfl, hx, hq⟩ := hv.cons
        obtain ⟨y', q2, rfl, hy, hq2⟩ := hq.cons
        obtain rfl := hq2.nil
        obtain rfl : y' = .slice none 0 0 := hy.self
        have hxs : x' = .slice (some ⟨ρ b, o, none⟩) n c := hx.self
        have hle : n ≤ c := hpc _ (by simp)
        obtain ⟨i, hu, hi, _⟩ := elemSz_some (e := es.1) (sz := es.2) hs
        refine ⟨x', w, ?_, Res.same hH hx⟩
        subst hxs
        simp [builtin, Builtin.append_, run_underlying hu, sizeOf, typeInfo, hi, Builtin.lenOf, Builtin.firstCells, hle, storeCells]
      · cases h
  · rename_i t t' x y _
    cases hb : Nat.beq t t'
    · simp only [hb, cond_false, reduceCtorEq] at h
    · simp only [hb, cond_true] at h
      obtain rfl := beq_nat hb
      obtain ⟨x', q, rfl, hx, hq⟩ := hv.cons
      obtain ⟨y', q2, rfl, hy, hq2⟩ := hq.cons
      obtain rfl := hq2.nil
      obtain ⟨u, w1, hr, hres⟩ := sound_append (type := type) h hpc hx hy hH hF
      exact ⟨u, w1, by simp [builtin, hr], hres⟩
  · cases h
end

/-! ### Calls -/
/-- A call of this function enters its body. -/
def Enters (P : Program) (f : FuncId) : Prop := ∀ (args : Array Value) (w : World), (callFunc f args).run P w = .ok (.enter f args) w
def Comes1 (S : Nat → Prop) (ρ : Nat → Nat) (hp : Hp) (w : World) (out : Out) (e : Ending) (w1 : World) : Prop := ∃ u, e = .returned u ∧ Res S ρ hp w out.v out.hp u w1
def CallOk (P : Program) (f : FuncId) (args : List Value) (hp : Hp) (out : Out) : Prop :=
  Keep hp out.hp ∧ Enters P f ∧ ((∀ p ∈ out.pc, p) → ∀ S ρ w cargs, VRL S ρ args cargs → HR S ρ hp w → NF S hp out.hp → Calls P f ⟨cargs⟩ w (Comes1 S ρ hp w out))
def CfOk (P : Program) (cf : CallF) : Prop := ∀ f args hp ds out, cf f args hp ds = some out → CallOk P f args hp out

/-! ### One operation -/
/-- The temporaries that matter. -/
def TL (S : Nat → Prop) (ρ : Nat → Nat) (tm : List Value) (a : Act) (L : List Tmp) : Prop := ∀ t ∈ L, VRd S ρ (tm.getD t undef) (a.tmps.getD t undef)
def KN (tm : List Value) (kn : Kn) : Prop := ∀ t d, lookK t kn = some d → tm.getD t undef = .bool d

theorem decB_some {b : Bool} {d : Dec} {c : Bool} {pc : List Prop} (h : decB b d = some (c, pc)) (hpc : ∀ p ∈ pc, p) : b = c := by
  cases d with
  | l =>
    cases b <;> simp only [decB, Option.some.injEq, Prod.mk.injEq] at h <;> exact h.1
  | t =>
    simp only [decB, Option.some.injEq, Prod.mk.injEq] at h
    obtain ⟨rfl, rfl⟩ := h
    exact hpc _ (by simp)
  | f =>
    simp only [decB, Option.some.injEq, Prod.mk.injEq] at h
    obtain ⟨rfl, rfl⟩ := h
    exact hpc _ (by simp)
theorem decideT_some {tm : List Value} {t : Nat} {kn kn' : Kn} {ds ds' : List Dec} {d : Bool} {pc : List Prop} (h : decideT tm t kn ds = some (d, kn', ds', pc)) (hpc : ∀ p ∈ pc, p) (hk : KN tm kn) :
    tm.getD t undef = .bool d ∧ KN tm kn' := by
  unfold decideT at h
  split at h
  · rename_i c hc
    simp only [Option.some.injEq, Prod.mk.injEq] at h
    obtain ⟨rfl, rfl, rfl, rfl⟩ := h
    exact ⟨hk _ _ hc, hk⟩
  · split at h
    · rename_i b d0 ds0 hb
      split at h
      · rename_i c pc0 hd
        simp only [Option.some.injEq, Prod.mk.injEq] at h
        obtain ⟨rfl, rfl, rfl, rfl⟩ := h
        have e := decB_some hd hpc
        subst e
        refine ⟨hb, fun u x hu => ?_⟩
        simp only [lookK] at hu
        cases hq : Nat.beq t u
        · simp only [hq, cond_false] at hu
          exact hk u x hu
        · simp only [hq, cond_true, Option.some.injEq] at hu
          obtain rfl := beq_nat hq
          subst hu
          exact hb
      · cases h
    · cases h

theorem TL.or {S : Nat → Prop} {ρ : Nat → Nat} {tm : List Value} {a : Act} {L : List Tmp} {l : List Operand} (h : TL S ρ tm a L) (hl : ∀ t, .tmp t ∈ l → t ∈ L) : OR S ρ tm a.eval l := by
  intro x hx v hv
  cases x with
  | tmp t =>
    obtain ⟨rfl, hd⟩ := aval_tmp hv
    rcases h t (hl t hx) with h | h
    · rw [hd] at h; cases h
    · exact h
  | const c =>
    simp only [aval] at hv
    cases hc : clo c
    · simp only [hc, cond_false, reduceCtorEq] at hv
    · simp only [hc, cond_true, Option.some.injEq] at hv
      subst hv
      exact VR.clo hc
  | func f =>
    simp only [aval, Option.some.injEq] at hv
    subst hv
    exact fun ρ' _ => rfl
  | global g => simp [aval] at hv

section
variable {E : Env} {cf : CallF} {S : Nat → Prop} {ρ : Nat → Nat} {tm : List Value} {kn kn1 : Kn} {hp hp1 : Hp} {ds ds1 : List Dec} {w : World} {v : Value} {pc : List Prop}

theorem doOp_keep (hcf : CfOk E.P cf) {op : Op} (h : doOp E cf tm kn hp ds op = some (v, hp1, ds1, pc, kn1)) : Keep hp hp1 := by
  unfold doOp at h
  split at h
  · split at h
    · split at h
      · split at h
        · rename_i o ho
          simp only [Option.some.injEq, Prod.mk.injEq] at h
          obtain ⟨_, rfl, _, _, _⟩ := h
          exact (hcf _ _ _ _ _ ho).1
        · cases h
      · cases h
    · split at h
      · rename_i o ho
        simp only [Option.some.injEq, Prod.mk.injEq] at h
        obtain ⟨_, rfl, _, _, _⟩ := h
        exact abuiltin_keep ho
      · cases h
    · cases h
  · split at h
    · split at h
      · simp only [Option.some.injEq, Prod.mk.injEq] at h
        obtain ⟨_, rfl, _, _, _⟩ := h
        exact Keep.refl _
      · cases h
    · cases h
  · split at h
    · rename_i ho
      simp only [Option.some.injEq, Prod.mk.injEq] at h
      obtain ⟨_, rfl, _, _, _⟩ := h
      exact aop_keep ho
    · cases h

theorem doOp_sound (hE : EqsOk E) (hcf : CfOk E.P cf) {o : Oper} (h : doOp E cf tm kn hp ds o.op = some (v, hp1, ds1, pc, kn1)) (hpc : ∀ p ∈ pc, p) (hk : KN tm kn) {a : Act}
    (hO : OR S ρ tm a.eval o.op.operands.toList) (hH : HR S ρ hp w) (hF : NF S hp hp1) :
    KN tm kn1 ∧ ∀ (K : Act → World → Prop) (Q : Exit → Act → World → Prop), (∀ u w1, Res S ρ hp w v hp1 u w1 → K (a.put o.dst u) w1) → o.wp E.P a w K Q := by
  have hplain : ∀ op, o.op = op → aop E tm hp op = some (v, hp1, pc) → ∀ (K : Act → World → Prop) (Q : Exit → Act → World → Prop), (∀ u w1, Res S ρ hp w v hp1 u w1 → K (a.put o.dst u) w1) → o.wp E.P a w K Q := by
    intro op hop ha K Q hK
    subst hop
    obtain ⟨u, w1, hr, hres⟩ := aop_sound (ev := a.eval) hE ha hpc hO hH hF
    exact hr.wp (hK u w1 hres)
  generalize hop : o.op = op at h
  unfold doOp at h
  split at h
  · rename_i c
    split at h
    · rename_i x args hc hargs
      split at h
      · rename_i f first cap hx
        split at h
        · rename_i out hout
          simp only [Option.some.injEq, Prod.mk.injEq] at h
          obtain ⟨rfl, rfl, rfl, rfl, rfl⟩ := h
          refine ⟨hk, fun K Q hK => ?_⟩
          obtain ⟨_, hent, hcall⟩ := hcf _ _ _ _ _ hout
          have hxv := hO x (by simp [hop, Op.operands, Call.operands, hc]) _ hx
          have hav := OR.avals (S := S) (ρ := ρ) (ev := a.eval) (fun y hy => hO y (by
            simp only [hop, Op.operands, Call.operands, Array.toList_append, List.mem_append]; exact .inr hy)) hargs
          have hxe : a.eval x = .func (.func f) ⟨first.map (ren ρ)⟩ ⟨cap.map (ren ρ)⟩ := by rw [hxv.self, ren_func]
          have hfc : ∀ ρ', Ag S ρ ρ' → first.map (ren ρ) = first.map (ren ρ') ∧ cap.map (ren ρ) = cap.map (ren ρ') := fun ρ' ha => by
            have := hxv ρ' ha
            rw [hxe, ren_func] at this
            injection this with _ q1 q2
            injection q1 with q1
            injection q2 with q2
            exact ⟨q1, q2⟩
          have hv : VRL S ρ (first ++ (args ++ cap)) (first.map (ren ρ) ++ ((c.args.toList.map a.eval) ++ cap.map (ren ρ))) :=
            VRL.app (fun ρ' ha => (hfc ρ' ha).1) (VRL.app hav (fun ρ' ha => (hfc ρ' ha).2))
          have hcl := hcall hpc S ρ w _ hv hH hF
          have hrun : (execOp a.eval o).run E.P w = .ok (.enter f ⟨first.map (ren ρ) ++ ((c.args.toList.map a.eval) ++ cap.map (ren ρ))⟩) w := by
            have harr : (⟨first.map (ren ρ)⟩ : Array Value) ++ c.args.map a.eval ++ (⟨cap.map (ren ρ)⟩ : Array Value) = ⟨first.map (ren ρ) ++ ((c.args.toList.map a.eval) ++ cap.map (ren ρ))⟩ := by
              apply Array.ext'
              simp
            simp only [execOp, hop, resolve, hc, hxe, Deferred.ofValue, Sem.run_bind, Sem.run_pure, Result.andThen_ok, invoke]
            rw [harr]
            exact hent _ _
          unfold Oper.wp
          rw [hrun]
          refine Calls.mono hcl fun e w1 he => ?_
          obtain ⟨u, rfl, hres⟩ := he
          exact hK u w1 hres
        · cases h
      · cases h
    · rename_i b args hc hargs
      split at h
      · rename_i out hout
        simp only [Option.some.injEq, Prod.mk.injEq] at h
        obtain ⟨rfl, rfl, rfl, rfl, rfl⟩ := h
        refine ⟨hk, fun K Q hK => ?_⟩
        have hav := OR.avals (S := S) (ρ := ρ) (ev := a.eval) (fun y hy => hO y (by
          simp only [hop, Op.operands, Call.operands, Array.toList_append, List.mem_append]; exact .inr hy)) hargs
        obtain ⟨u, w1, hr, hres⟩ := abuiltin_sound hout hpc hav hH hF o.type (c.args.map fun | .const _ => true | _ => false)
        have hrun : (execOp a.eval o).run E.P w = .ok (.value u) w1 := by
          have e1 : c.argTypes = ⟨c.argTypes.toList⟩ := rfl
          have e2 : c.args.map a.eval = ⟨c.args.toList.map a.eval⟩ := by apply Array.ext'; simp
          simp only [execOp, hop, resolve, hc, Sem.run_bind, Sem.run_pure, Result.andThen_ok, invoke]
          rw [e2]
          exact hr
        exact Ran.wp (.inl hrun) (hK u w1 hres)
      · cases h
    · cases h
  · rename_i t x y
    split at h
    · rename_i d kn' ds' pc' hd
      split at h
      · rename_i v' hv'
        simp only [Option.some.injEq, Prod.mk.injEq] at h
        obtain ⟨rfl, rfl, rfl, rfl, rfl⟩ := h
        obtain ⟨htd, hk'⟩ := decideT_some hd hpc hk
        refine ⟨hk', fun K Q hK => ?_⟩
        have he : a.eval (.tmp t) = .bool d := by
          have := hO (.tmp t) (by simp [hop, Op.operands]) (.bool d) (by simp only [aval]; rw [htd])
          exact this.self
        have hvr : VR S ρ v' (a.eval (bif d then x else y)) := hO _ (by cases d <;> simp [hop, Op.operands]) _ hv'
        refine Ran.wp (u := a.eval (bif d then x else y)) (w1 := w) (.inl ?_) (hK _ _ (Res.same hH hvr))
        cases d <;> simp [execOp, hop, he, asBool]
      · cases h
    · cases h
  · split at h
    · rename_i ho
      simp only [Option.some.injEq, Prod.mk.injEq] at h
      obtain ⟨rfl, rfl, rfl, rfl, rfl⟩ := h
      exact ⟨hk, hplain _ hop ho⟩
    · cases h

theorem doOper_keep (hcf : CfOk E.P cf) {ops : Array Oper} {o : Oper} (h : doOper E cf ops tm kn hp ds o = some (v, hp1, ds1, pc, kn1)) : Keep hp hp1 := by
  unfold doOper at h
  split at h
  · exact doOp_keep hcf h
  · split at h
    · cases h
    · rename_i t _
      cases hu : isU (tm.getD t undef)
      · simp only [hu, cond_false] at h
        split at h
        · cases h
        · split at h
          · simp only [Option.some.injEq, Prod.mk.injEq] at h
            obtain ⟨_, rfl, _, _, _⟩ := h
            exact Keep.refl _
          · split at h
            · rename_i ho
              simp only [Option.some.injEq, Prod.mk.injEq] at h
              obtain ⟨_, rfl, _, _, _⟩ := h
              exact doOp_keep hcf ho
            · cases h
      · simp only [hu, cond_true, Option.some.injEq, Prod.mk.injEq] at h
        obtain ⟨_, rfl, _, _, _⟩ := h
        exact Keep.refl _

theorem isU_eq {v : Value} (h : isU v = true) : v = undef := by
  unfold isU at h
  split at h
  · rfl
  · cases h
theorem looks_op {ops : Array Oper} {o : Oper} {t : Tmp} (h : .tmp t ∈ o.op.operands.toList) : t ∈ o.looksAt ops :=
  List.mem_append.2 (.inl (List.mem_filterMap.2 ⟨.tmp t, h, rfl⟩))

theorem doOper_sound (hE : EqsOk E) (hcf : CfOk E.P cf) {ops : Array Oper} {o : Oper} (h : doOper E cf ops tm kn hp ds o = some (v, hp1, ds1, pc, kn1)) (hpc : ∀ p ∈ pc, p) (hk : KN tm kn) {a : Act}
    (hT : TL S ρ tm a (o.looksAt ops)) (hH : HR S ρ hp w) (hF : NF S hp hp1) :
    KN tm kn1 ∧ ∀ (K : Act → World → Prop) (Q : Exit → Act → World → Prop), (∀ u w1, Res S ρ hp w v hp1 u w1 → K (a.put o.dst u) w1) →
      if Region.wanted o (yielded ops a.tmps) then o.wp E.P a w K Q ∨ (o.asks E.P a w ∧ LetsOut Q) else K (a.put o.dst undef) w := by
  have hO : OR S ρ tm a.eval o.op.operands.toList := hT.or (fun t ht => looks_op ht)
  unfold doOper at h
  split at h
  · rename_i hg
    obtain ⟨h1, h2⟩ := doOp_sound hE hcf h hpc hk hO hH hF
    refine ⟨h1, fun K Q hK => ?_⟩
    rw [if_pos (by simp [Region.wanted, hg])]
    exact .inl (h2 K Q hK)
  · rename_i j want hg
    split at h
    · cases h
    · rename_i t ht
      cases hu : isU (tm.getD t undef)
      · simp only [hu, cond_false] at h
        split at h
        · cases h
        · rename_i d kn' ds' pc' hd
          have hy : ∀ (hp' : ∀ p ∈ pc', p), yielded ops a.tmps j = some d ∧ KN tm kn' := fun hp' => by
            obtain ⟨htd, hk'⟩ := decideT_some hd hp' hk
            have hv := hT t (List.mem_append.2 (.inr (by simp [hg, ht])))
            rw [htd] at hv
            have he : a.tmps.getD t undef = .bool d := hv.bool
            have hget : a.tmps[t]? = some (.bool d) := by
              cases hq : a.tmps[t]? with
              | none =>
                rw [Array.getD_eq_getD_getElem?, hq] at he
                cases he
              | some x =>
                rw [Array.getD_eq_getD_getElem?, hq] at he
                simp at he
                rw [he]
            refine ⟨?_, hk'⟩
            unfold yielded
            rw [ht]
            simp [hget]
          split at h
          · rename_i hx
            simp only [Option.some.injEq, Prod.mk.injEq] at h
            obtain ⟨rfl, rfl, rfl, rfl, rfl⟩ := h
            obtain ⟨hyy, hk'⟩ := hy hpc
            refine ⟨hk', fun K Q hK => ?_⟩
            rw [if_neg (by
              simp only [Region.wanted, hg, hyy]
              cases d <;> cases want <;> simp_all)]
            exact hK undef w (Res.same hH (fun _ _ => rfl))
          · rename_i hx
            split at h
            · rename_i v0 hp0 ds0 pc0 kn0 ho
              simp only [Option.some.injEq, Prod.mk.injEq] at h
              obtain ⟨rfl, rfl, rfl, rfl, rfl⟩ := h
              obtain ⟨hyy, hk'⟩ := hy (fun p hp => hpc p (List.mem_append.2 (.inl hp)))
              obtain ⟨h1, h2⟩ := doOp_sound hE hcf ho (fun p hp => hpc p (List.mem_append.2 (.inr hp))) hk' hO hH hF
              refine ⟨h1, fun K Q hK => ?_⟩
              rw [if_pos (by
                simp only [Region.wanted, hg, hyy]
                cases d <;> cases want <;> simp_all)]
              exact .inl (h2 K Q hK)
            · cases h
      · simp only [hu, cond_true, Option.some.injEq, Prod.mk.injEq] at h
        obtain ⟨rfl, rfl, rfl, rfl, rfl⟩ := h
        refine ⟨hk, fun K Q hK => ?_⟩
        have hv := hT t (List.mem_append.2 (.inr (by simp [hg, ht])))
        have eu := isU_eq hu
        rw [eu] at hv
        have he : a.tmps.getD t undef = undef := by
          rcases hv with h | h
          · cases h
          · exact h.self
        have hyy : ∀ d, yielded ops a.tmps j ≠ some d := fun d hd => by
          unfold yielded at hd
          rw [ht] at hd
          rw [Array.getD_eq_getD_getElem?] at he
          cases hq : a.tmps[t]? with
          | none => simp [hq] at hd
          | some x =>
            rw [hq] at he
            simp at he
            subst he
            simp [hq, undef] at hd
        rw [if_neg (by
          simp only [Region.wanted, hg]
          intro e
          exact hyy want (by simpa using e))]
        exact hK undef w (Res.same hH (fun _ _ => rfl))
end

theorem doOp_kn {E : Env} {cf : CallF} {tm : List Value} {kn kn1 : Kn} {hp hp1 : Hp} {ds ds1 : List Dec} {v : Value} {pc : List Prop} {op : Op} (h : doOp E cf tm kn hp ds op = some (v, hp1, ds1, pc, kn1)) (hpc : ∀ p ∈ pc, p) (hk : KN tm kn) : KN tm kn1 := by
  unfold doOp at h
  split at h
  · split at h
    · split at h
      · split at h
        · simp only [Option.some.injEq, Prod.mk.injEq] at h; obtain ⟨_, _, _, _, rfl⟩ := h; exact hk
        · cases h
      · cases h
    · split at h
      · simp only [Option.some.injEq, Prod.mk.injEq] at h; obtain ⟨_, _, _, _, rfl⟩ := h; exact hk
      · cases h
    · cases h
  · split at h
    · rename_i hd
      split at h
      · simp only [Option.some.injEq, Prod.mk.injEq] at h; obtain ⟨_, _, _, rfl, rfl⟩ := h; exact (decideT_some hd hpc hk).2
      · cases h
    · cases h
  · split at h
    · simp only [Option.some.injEq, Prod.mk.injEq] at h; obtain ⟨_, _, _, _, rfl⟩ := h; exact hk
    · cases h
theorem doOper_kn {E : Env} {cf : CallF} {ops : Array Oper} {tm : List Value} {kn kn1 : Kn} {hp hp1 : Hp} {ds ds1 : List Dec} {v : Value} {pc : List Prop} {o : Oper} (h : doOper E cf ops tm kn hp ds o = some (v, hp1, ds1, pc, kn1)) (hpc : ∀ p ∈ pc, p) (hk : KN tm kn) : KN tm kn1 := by
  unfold doOper at h
  split at h
  · exact doOp_kn h hpc hk
  · split at h
    · cases h
    · rename_i t _
      cases hu : isU (tm.getD t undef)
      · simp only [hu, cond_false] at h
        split at h
        · cases h
        · rename_i hd
          split at h
          · simp only [Option.some.injEq, Prod.mk.injEq] at h; obtain ⟨_, _, _, rfl, rfl⟩ := h; exact (decideT_some hd hpc hk).2
          · split at h
            · rename_i ho
              simp only [Option.some.injEq, Prod.mk.injEq] at h
              obtain ⟨_, _, _, rfl, rfl⟩ := h
              exact doOp_kn ho (fun p hp => hpc p (List.mem_append.2 (.inr hp))) (decideT_some hd (fun p hp => hpc p (List.mem_append.2 (.inl hp))) hk).2
            · cases h
      · simp only [hu, cond_true, Option.some.injEq, Prod.mk.injEq] at h
        obtain ⟨_, _, _, _, rfl⟩ := h
        exact hk

/-! ### Rows of operations, one behind the other -/
structure FrR (S : Nat → Prop) (ρ : Nat → Nat) (tm : List Value) (hp : Hp) (a : Act) (w : World) : Prop where
  size : tm.length = a.tmps.size
  tmp : ∀ t, VRd S ρ (tm.getD t undef) (a.tmps.getD t undef)
  heap : HR S ρ hp w
  defers : a.defers = []

theorem putT_length (tm : List Value) (d : Option Tmp) (v : Value) : (putT tm d v).length = tm.length := by
  cases d <;> simp [putT]
theorem put_size (a : Act) (d : Option Tmp) (u : Value) : (a.put d u).tmps.size = a.tmps.size := by
  cases d <;> simp [Act.put]
theorem putT_get {tm : List Value} {d t : Nat} {v : Value} : (putT tm (some d) v).getD t undef = if d = t ∧ d < tm.length then v else tm.getD t undef := by
  simp only [putT, List.getD]
  by_cases h : d = t
  · subst h
    by_cases hl : d < tm.length
    · simp [hl]
    · simp [hl]
  · simp [h]
theorem put_get {a : Act} {d t : Nat} {u : Value} : (a.put (some d) u).tmps.getD t undef = if d = t ∧ d < a.tmps.size then u else a.tmps.getD t undef := by
  simp only [Act.put, Array.getD_eq_getD_getElem?]
  by_cases h : d = t
  · subst h
    by_cases hl : d < a.tmps.size
    · simp [hl]
    · simp [hl]
  · simp [h, Array.getElem?_setIfInBounds_ne h]
theorem FrR.put {S S1 : Nat → Prop} {ρ ρ1 : Nat → Nat} {tm : List Value} {hp hp1 : Hp} {a : Act} {w w1 : World} {v u : Value} (h : FrR S ρ tm hp a w) (hs : ∀ k, S k → S1 k) (ha : Ag S ρ ρ1) (hH : HR S1 ρ1 hp1 w1) (hv : VR S1 ρ1 v u) (d : Option Tmp) :
    FrR S1 ρ1 (putT tm d v) hp1 (a.put d u) w1 := by
  refine ⟨by rw [putT_length, put_size, h.size], fun t => ?_, hH, by cases d <;> exact h.defers⟩
  cases d with
  | none => exact (h.tmp t).up hs ha
  | some d =>
    rw [putT_get, put_get, h.size]
    split
    · exact .inr hv
    · exact (h.tmp t).up hs ha
theorem KN.put {tm : List Value} {kn : Kn} (h : KN tm kn) (d : Option Tmp) (v : Value) : KN (putT tm d v) (putK kn d) := by
  cases d with
  | none => exact h
  | some d =>
    intro t x hx
    have hd : ∀ kn : Kn, lookK t (dropK d kn) = some x → t ≠ d ∧ lookK t kn = some x := by
      intro kn
      induction kn with
      | nil => intro h; simp [dropK, lookK] at h
      | cons p r ih =>
        obtain ⟨u, b⟩ := p
        intro h
        simp only [dropK] at h
        cases hu : Nat.beq u d
        · simp only [hu, cond_false, lookK] at h
          cases ht : Nat.beq u t
          · simp only [ht, cond_false] at h
            simp only [lookK, ht, cond_false]
            exact ih h
          · simp only [ht, cond_true, Option.some.injEq] at h
            have e1 := beq_nat ht
            have e2 := bne_nat hu
            subst e1
            exact ⟨e2, by simp only [lookK, ht, cond_true, h]⟩
        · simp only [hu, cond_true] at h
          obtain ⟨q1, q2⟩ := ih h
          have e1 := beq_nat hu
          refine ⟨q1, ?_⟩
          simp only [lookK]
          have : Nat.beq u t = false := by
            cases hq : Nat.beq u t
            · rfl
            · exact absurd ((beq_nat hq).symm.trans e1) q1
          rw [this, cond_false]
          exact q2
    obtain ⟨hne, hl⟩ := hd kn hx
    rw [putT_get, if_neg (fun e => hne e.1.symm)]
    exact h t x hl

theorem NF.left {S : Nat → Prop} {a b c : Hp} (h : NF S a c) (hb : b.next ≤ c.next) : NF S a b := fun k h1 h2 => h k h1 (Nat.lt_of_lt_of_le h2 hb)
theorem NF.right {S : Nat → Prop} {a b c : Hp} (h : NF S a c) (ha : a.next ≤ b.next) : NF (SN S a b) b c := fun k h1 h2 hs => by
  rcases hs with hs | hs
  · exact h k (Nat.le_trans ha h1) h2 hs
  · omega
theorem SN.trans {S : Nat → Prop} {a b c : Hp} (h1 : a.next ≤ b.next) (h2 : b.next ≤ c.next) (k : Nat) (h : SN (SN S a b) b c k) : SN S a c k := by
  rcases h with (h | h) | h
  · exact .inl h
  · exact .inr ⟨h.1, by omega⟩
  · exact .inr ⟨by omega, h.2⟩
theorem FrR.up {S S1 : Nat → Prop} {ρ : Nat → Nat} {tm : List Value} {hp : Hp} {a : Act} {w : World} (h : FrR S ρ tm hp a w) (hs : ∀ k, S k → S1 k) : FrR S1 ρ tm hp a w :=
  ⟨h.size, fun t => (h.tmp t).up hs (Ag.refl _ _), h.heap.up hs, h.defers⟩

section
variable {E : Env} {cf : CallF}
/-- What holds behind a piece of code that has gone well. -/
def After (S : Nat → Prop) (ρ : Nat → Nat) (fr fr1 : Fr) (w : World) (a1 : Act) (w1 : World) : Prop :=
  ∃ ρ1, Ag S ρ ρ1 ∧ FrR (SN S fr.hp fr1.hp) ρ1 fr1.tm fr1.hp a1 w1 ∧ FR ρ ρ1 fr.hp fr1.hp w w1
theorem After.refl {S : Nat → Prop} {ρ : Nat → Nat} {fr : Fr} {w : World} {a : Act} (h : FrR S ρ fr.tm fr.hp a w) : After S ρ fr fr w a w :=
  ⟨ρ, Ag.refl _ _, h.up SN.left, FR.refl _ _ _⟩
theorem After.trans {S : Nat → Prop} {ρ ρ1 : Nat → Nat} {fr fr1 fr2 : Fr} {w w1 w2 : World} {a2 : Act} (hl : fr.hp.next ≤ fr1.hp.next) (hl' : fr1.hp.next ≤ fr2.hp.next) (ha : Ag S ρ ρ1)
    (hf : FR ρ ρ1 fr.hp fr1.hp w w1) (h : After (SN S fr.hp fr1.hp) ρ1 fr1 fr2 w1 a2 w2) : After S ρ fr fr2 w a2 w2 := by
  obtain ⟨ρ2, q1, q2, q3⟩ := h
  exact ⟨ρ2, ha.trans SN.left q1, q2.up (SN.trans hl hl'), hf.trans q3⟩

theorem doOps_sound (hE : EqsOk E) (hcf : CfOk E.P cf) {ops : Array Oper} : ∀ (l : List Oper) (kn : Kn) (fr fr1 : Fr), doOps E cf ops l kn fr = some fr1 →
    Keep fr.hp fr1.hp ∧ (∀ p ∈ fr.pc, p ∈ fr1.pc) ∧ ∀ (S : Nat → Prop) (ρ : Nat → Nat) (a : Act) (w : World) (Q : Exit → Act → World → Prop), FrR S ρ fr.tm fr.hp a w → NF S fr.hp fr1.hp → (∀ p ∈ fr1.pc, p) → KN fr.tm kn →
      (∀ a1 w1, After S ρ fr fr1 w a1 w1 → Q .normal a1 w1) → wpList E.P ops Q l a w
  | [], kn, fr, fr1, h => by
    simp only [doOps, Option.some.injEq] at h
    subst h
    exact ⟨Keep.refl _, fun _ hp => hp, fun S ρ a w Q hf _ _ _ hQ => hQ a w (After.refl hf)⟩
  | o :: rest, kn, fr, fr1, h => by
    simp only [doOps] at h
    split at h
    · rename_i v hp ds pc kn' ho
      obtain ⟨ih1, ih2, ih3⟩ := doOps_sound hE hcf rest _ _ _ h
      have hk1 := doOper_keep hcf ho
      refine ⟨hk1.trans ih1, fun p hp => ih2 p (List.mem_append.2 (.inl hp)), fun S ρ a w Q hf hN hpc hk hQ => ?_⟩
      have hpc' : ∀ p ∈ pc, p := fun p hp => hpc p (ih2 p (List.mem_append.2 (.inr hp)))
      obtain ⟨hkn, hstep⟩ := doOper_sound (S := S) (ρ := ρ) (a := a) (w := w) hE hcf ho hpc' hk (fun t _ => hf.tmp t) hf.heap (hN.left ih1.le)
      have := hstep (wpList E.P ops Q rest) Q (fun u w1 hres => by
        obtain ⟨ρ1, r1, r2, r3, r4⟩ := hres
        refine ih3 (SN S fr.hp hp) ρ1 _ w1 Q (hf.put SN.left r1 r2 r3 o.dst) (hN.right hk1.le) hpc (hkn.put o.dst v) fun a1 w2 haft => hQ a1 w2 ?_
        exact After.trans (fr1 := ⟨putT fr.tm o.dst v, hp, ds, fr.pc ++ pc⟩) hk1.le ih1.le r1 r4 haft)
      unfold wpList
      exact this
    · cases h
end
end Go.Proofs.YtocfhiafegkfkaaGreat.Ev
