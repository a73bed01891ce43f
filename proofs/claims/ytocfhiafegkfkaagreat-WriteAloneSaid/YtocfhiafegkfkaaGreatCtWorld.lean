/- A memory's words told as a row; a memory held against the document's; new memories. -/
import Derived.Test.YtocfhiafegkfkaaGreatCtRef
namespace Go.Proofs.YtocfhiafegkfkaaGreat.Ct
open Go Go.Proofs Go.Proofs.YtocfhiafegkfkaaGreat.Ev
open Go.RowKit

def cpN (w : List Int) (N : Nat) : List Int := w.take (Nat.min N (Int.toNat (N : Int))) ++ (List.replicate (Int.toNat (N : Int)) 0).drop (Nat.min N (Int.toNat (N : Int)))
theorem cpN_eq {w : List Int} {N : Nat} (h : N = w.length) : cpN w N = w := by
  subst h
  unfold cpN
  simp
def cpNP (N n : Nat) : List Prop := [0 ≤ (N : Int), 8 * (N : Int) ≤ 281474976710656, (N : Int) ≤ 9223372036854775807, Nat.min N (Int.toNat (N : Int)) ≤ n, Nat.min N (Int.toNat (N : Int)) ≤ (List.replicate (Int.toNat (N : Int)) (0 : Int)).length, (0 : Nat) = 0]
theorem cpNP_ok {N n : Nat} (h : N = n) (hs : n ≤ 66) : ∀ p ∈ cpNP N n, p := by
  subst h
  exact pcs_of ⟨by omega, by omega, by omega, Nat.min_le_left _ _, by simp, rfl, trivial⟩
def ceHp (m : Mm) (w : List Int) : Hp := ⟨[(0, .cells (m.cells 1) memT), (1, .ints .u64 m.w u64T), (2, .ints .u64 w u64T)], 3, []⟩
theorem ce_path (m : Mm) : callR E10 8 34 [pt0] (mHp m) [] [0, 1, 2] = some (.slice (some ⟨2, 0, none⟩) m.N m.N, ceHp m (cpN m.w m.N), cpNP m.N m.w.length) := by kernel_rfl
theorem ce_C {m : Mm} (hok : m.ok) : CallC Tryz.prog 34 [pt0] (mHp m) (.slice (some ⟨2, 0, none⟩) m.N m.N) (ceHp m m.w) := by
  have h := CallC.of_call E10ok (ce_path m) (cpNP_ok hok.1 hok.small) rfl z2L
  rw [cpN_eq hok.1] at h
  exact h
def gCe (args : List Value) (hp : Hp) : Option (Value × Hp × List Prop) :=
  match args with
  | [.pointer (some ⟨k, 0, none⟩)] => match memOf hp k with
    | some (_, m) => some (.slice (some ⟨hp.next, 0, none⟩) m.N m.N, ⟨(hp.next, .ints .u64 m.w u64T) :: delB [hp.next] hp.blks, hp.next + 1, hp.log⟩, [m.ok])
    | none => none
  | _ => none
theorem gCe_ok : ∀ args hp v hp' pc, gCe args hp = some (v, hp', pc) → ∀ ds, CallOk Tryz.prog 34 args hp ⟨v, hp', ds, pc⟩ := by
  intro args hp v hp' pc hg ds
  unfold gCe at hg
  split at hg
  · rename_i k
    split at hg
    · rename_i wn m h
      simp only [Option.some.injEq, Prod.mk.injEq] at hg
      obtain ⟨rfl, rfl, rfl⟩ := hg
      obtain ⟨h1, h2, h3⟩ := memOf_some h
      exact CallC.lift (enters (fn := Tryz.f34) (by kernel_rfl) (by kernel_rfl) rfl) (fun hp => ce_C (hd1 hp)) [k, wn] [2] (by show 2 ≤ 3; omega) rfl (by simp [tellers, nmL, nm, mHp, tellers.tellB, allLt, Blk.nm, Mm.cells, Cfg.cells, Tc.cells, Nat.blt]) (by simp [tellers, nmL, nm, mHp, tellers.tellB, allHas, has, upTo, Blk.nm, Mm.cells, Cfg.cells, Tc.cells, Nat.beq]) (nodup2 h3) rfl
        ⟨.inr rfl, .inr rfl, trivial⟩ (hp := hp) (args := [.pointer (some ⟨k, 0, none⟩)]) rfl ⟨h1, h2, trivial⟩ ds
    · cases hg
  · cases hg

/-- A memory, and the document's, are alike. -/
def alike (m q : Mm) : Prop := q.w = m.w ∧ q.N = m.N ∧ q.n = m.n ∧ q.t = m.t
def aHp (m q : Mm) : Hp := ⟨[(0, .cells (m.cells 1) memT), (1, .ints .u64 m.w u64T), (2, .view 0 (.ints .u64 q.w u64T))], 4, []⟩
def alP (m q : Mm) : List Prop := [(0 : Nat) = 0, (0 : Nat) = 0, m.N ≤ (cpN m.w m.N).length, q.N ≤ q.w.length, m.N ≤ 9223372036854775806, ((cpN m.w m.N).take m.N == q.w.take q.N) = true, (m.n == q.n) = true]
open Dec in
theorem al_path (m q : Mm) : callR E10 8 38 [pt0, .agg ⟨q.rcells 2 3⟩] (aHp m q) [t, t] [0, 1, 2, 3] = some (.bool (andL [m.t.kind == q.t.kind, m.t.sk == q.t.sk, m.t.sn == q.t.sn, m.t.old == q.t.old, m.t.new == q.t.new, m.t.done == q.t.done]), aHp m q, cpNP m.N m.w.length ++ alP m q) := by kernel_rfl
theorem al_C {m q : Mm} (hok : m.ok) (ha : alike m q) : CallC Tryz.prog 38 [pt0, .agg ⟨q.rcells 2 3⟩] (aHp m q) (.bool true) (aHp m q) := by
  obtain ⟨a1, a2, a3, a4⟩ := ha
  have e1 := hok.1
  have hs := hok.small
  have h := CallC.of_call E10ok (al_path m q) (pcs_app (cpNP_ok hok.1 hok.small) (pcs_of ⟨rfl, rfl, by rw [cpN_eq hok.1]; omega, by rw [a1, a2]; omega, by omega, by rw [cpN_eq hok.1, a1, a2]; exact beq_self_eq_true _, by rw [a3]; exact beq_self_eq_true _, trivial⟩)) rfl (fun k hk => by
    have hk' : k < 4 := hk
    match k, hk' with
    | 0, _ => rfl
    | 1, _ => rfl
    | 2, _ => rfl
    | 3, _ => rfl)
  have e : andL [m.t.kind == q.t.kind, m.t.sk == q.t.sk, m.t.sn == q.t.sn, m.t.old == q.t.old, m.t.new == q.t.new, m.t.done == q.t.done] = true := by
    rw [a4]
    simp [andL]
  rw [e] at h
  exact h
def gAl (args : List Value) (hp : Hp) : Option (Value × Hp × List Prop) :=
  match args with
  | [.pointer (some ⟨k, 0, none⟩), r] => match memOf hp k, refOf hp r with
    | some (wn, m), some (rn, cn, q) => bif nodupB [k, wn, rn, cn] then some (.bool true, hp, [m.ok, alike m q]) else none
    | _, _ => none
  | _ => none
theorem gAl_ok : ∀ args hp v hp' pc, gAl args hp = some (v, hp', pc) → ∀ ds, CallOk Tryz.prog 38 args hp ⟨v, hp', ds, pc⟩ := by
  intro args hp v hp' pc hg ds
  unfold gAl at hg
  split at hg
  · rename_i k r
    split at hg
    · rename_i wn m rn cn q hm hq
      cases hnd : nodupB [k, wn, rn, cn]
      · simp [hnd] at hg
      simp only [hnd, cond_true, Option.some.injEq, Prod.mk.injEq] at hg
      obtain ⟨rfl, rfl, rfl⟩ := hg
      obtain ⟨h1, h2, h3⟩ := memOf_some hm
      obtain ⟨rfl, h4, h5⟩ := refOf_some hq
      have hl := CallC.lift (enters (fn := Tryz.f38) (by kernel_rfl) (by kernel_rfl) rfl) (pc := [m.ok, alike m q]) (fun hp => al_C (hp _ (by simp)) (hp _ (by simp))) [k, wn, rn, cn] [] (Nat.le_refl _) rfl (by simp [tellers, nmL, nm, nmA, aHp, tellers.tellB, allLt, Blk.nm, Mm.cells, Mm.rcells, Cfg.cells, Tc.cells, Nat.blt]) (by simp [tellers, nmL, nm, nmA, aHp, tellers.tellB, allHas, has, upTo, Blk.nm, Mm.cells, Mm.rcells, Cfg.cells, Tc.cells, Nat.beq]) hnd rfl
        ⟨.inr rfl, .inr rfl, .inr rfl, trivial⟩ (hp := hp) (args := [.pointer (some ⟨k, 0, none⟩), .agg ⟨q.rcells rn cn⟩]) rfl ⟨h1, h2, h4, trivial⟩ ds
      have e : hp.lay [k, wn, rn, cn] (aHp m q).next (aHp m q) [] = hp := by simp [Hp.lay, pick', layB, mapN, delB_nil, below, aHp, has]
      rw [e] at hl
      exact hl
    · cases hg
  · cases hg
noncomputable def E11 : Env := (E10.add 34 gCe).add 38 gAl
theorem E11ok : EnvOk E11 := (E10ok.add gCe_ok).add gAl_ok

/-- A new memory, of these words. -/
def newM (c : Cfg) (l : List Int) : Mm := ⟨c, l.length, l.length, ⟨0, 0, 0, 0, 0, false⟩, 0, l⟩
theorem newM_ok {c : Cfg} {l : List Int} (h : (l.length : Int) = c.len) : (newM c l).ok := ⟨rfl, h⟩
def ofOwn (c : Cfg) (l : List Int) (off : Nat) : Hp := ⟨[(0, .view off (.ints .u64 l u64T)), (1, .cells ((newM c l).cells 2) memT), (2, .ints .u64 l u64T), (3, .own (.ints .u64 l u64T) 4)], 5, []⟩
def ofOut (c : Cfg) (l : List Int) (off : Nat) : Hp := ⟨[(1, .cells ((newM c l).cells 2) memT), (2, .ints .u64 l u64T), (3, .view 0 (.ints .u64 l u64T)), (0, .view off (.ints .u64 l u64T))], 5, []⟩
def ofV (c : Cfg) (l : List Int) (a b d : Nat) : Value := .tuple ⟨[.pointer (some ⟨a, 0, none⟩), .agg ⟨(newM c l).rcells b d⟩, .bool true]⟩
open Dec in
theorem of_path (c : Cfg) (l : List Int) (off cap : Nat) : callR E10 8 23 [c.v, .slice (some ⟨0, off, none⟩) l.length cap] ⟨[(0, .view off (.ints .u64 l u64T))], 1, []⟩ [f, f, f, f, Dec.l] [0, 5, 4, 9, 10] =
    some (ofV c l 1 3 4, ⟨[(0, .view off (.ints .u64 l u64T)), (1, .cells ((newM c l).cells 2) memT), (2, .ints .u64 (l0 l) u64T), (3, .own (.ints .u64 (l.take l.length) u64T) 4)], 5, []⟩, ofPc c l off) := by kernel_rfl
theorem of_C {c : Cfg} {l : List Int} (hr : c.Right) (hlen : (l.length : Int) = c.len) (off cap : Nat) : CallC Tryz.prog 23 [c.v, .slice (some ⟨0, off, none⟩) l.length cap] ⟨[(0, .view off (.ints .u64 l u64T))], 1, []⟩ (ofV c l 1 3 4) (ofOut c l off) := by
  have h := CallC.of_call E10ok (of_path c l off cap) (ofPc_ok off hr hlen) rfl (fun k hk => by
    have hk' : k < 1 := hk
    match k, hk' with
    | 0, _ => rfl)
  rw [l0_eq, List.take_length] at h
  refine CallC.soft h view_isV rfl fun n b hb => ?_
  simp only [ofOut, Hp.get, lookB] at hb
  cases h1 : Nat.beq 1 n
  · cases h2 : Nat.beq 2 n
    · cases h3 : Nat.beq 3 n
      · cases h0 : Nat.beq 0 n
        · simp [h0, h1, h2, h3] at hb
        · simp only [h0, h1, h2, h3, cond_true, cond_false, Option.some.injEq] at hb
          have := beq_nat h0
          subst this; subst hb
          exact ⟨_, rfl, .inl rfl⟩
      · simp only [h1, h2, h3, cond_true, cond_false, Option.some.injEq] at hb
        have := beq_nat h3
        subst this; subst hb
        exact ⟨_, rfl, .inr ⟨rfl, rfl, fun ρ o ho ρ'' => own_view ρ o ho ρ''⟩⟩
    · simp only [h1, h2, cond_true, cond_false, Option.some.injEq] at hb
      have := beq_nat h2
      subst this; subst hb
      exact ⟨_, rfl, .inl rfl⟩
  · simp only [h1, cond_true, Option.some.injEq] at hb
    have := beq_nat h1
    subst this; subst hb
    exact ⟨_, rfl, .inl rfl⟩
def gOfW (args : List Value) (hp : Hp) : Option (Value × Hp × List Prop) :=
  match args with
  | [v, .slice (some ⟨b, off, none⟩) n _] => match cfgOf v, hp.get b with
    | some c, some (.view o (.ints .u64 l ty)) => bif Nat.beq ty u64T then
        some (ofV c l hp.next (hp.next + 2) (hp.next + 3), ⟨(hp.next, .cells ((newM c l).cells (hp.next + 1)) memT) :: (hp.next + 1, .ints .u64 l u64T) :: (hp.next + 2, .view 0 (.ints .u64 l u64T)) :: delB [hp.next, hp.next + 1, hp.next + 2] hp.blks, hp.next + 4, hp.log⟩, [c.Right ∧ (l.length : Int) = c.len ∧ n = l.length ∧ off = o])
      else none
    | _, _ => none
  | _ => none
theorem gOfW_ok : ∀ args hp v hp' pc, gOfW args hp = some (v, hp', pc) → ∀ ds, CallOk Tryz.prog 23 args hp ⟨v, hp', ds, pc⟩ := by
  intro args hp v hp' pc hg ds
  unfold gOfW at hg
  split at hg
  · rename_i v0 b off n cap
    split at hg
    · rename_i c o l ty hc hb
      cases hty : Nat.beq ty u64T
      · simp [hty] at hg
      simp only [hty, cond_true, Option.some.injEq, Prod.mk.injEq] at hg
      obtain ⟨rfl, rfl, rfl⟩ := hg
      have e2 := beq_nat hty
      subst e2
      rw [cfgOf_some hc]
      by_cases hq : c.Right ∧ (l.length : Int) = c.len ∧ n = l.length ∧ off = o
      · obtain ⟨q1, q2, rfl, rfl⟩ := id hq
        exact CallC.lift (enters (fn := Tryz.f23) (by kernel_rfl) (by kernel_rfl) rfl) (fun _ => of_C q1 q2 off cap) [b] [1, 2, 3] (by show 1 ≤ 5; omega) rfl rfl rfl rfl rfl
          ⟨.inr rfl, trivial⟩ (hp := hp) (args := [c.v, .slice (some ⟨b, off, none⟩) l.length cap]) rfl ⟨hb, trivial⟩ ds
      · refine ⟨⟨by show hp.next ≤ hp.next + 4; omega, fun m _ hm => hm, fun n hn _ => ?_⟩, enters (fn := Tryz.f23) (by kernel_rfl) (by kernel_rfl) rfl, fun hpc => absurd (hd1 hpc) hq⟩
        show lookB n _ = lookB n _
        have n1 : Nat.beq hp.next n = false := by
          cases e : Nat.beq hp.next n
          · rfl
          · have := beq_nat e; omega
        have n2 : Nat.beq (hp.next + 1) n = false := by
          cases e : Nat.beq (hp.next + 1) n
          · rfl
          · have := beq_nat e; omega
        have n3 : Nat.beq (hp.next + 2) n = false := by
          cases e : Nat.beq (hp.next + 2) n
          · rfl
          · have := beq_nat e; omega
        simp only [lookB, n1, n2, n3, cond_false, lookB_del, has]
        rfl
    · cases hg
  · cases hg
noncomputable def E12 : Env := E11.add 23 gOfW
theorem E12ok : EnvOk E12 := E11ok.add gOfW_ok
end Go.Proofs.YtocfhiafegkfkaaGreat.Ct
