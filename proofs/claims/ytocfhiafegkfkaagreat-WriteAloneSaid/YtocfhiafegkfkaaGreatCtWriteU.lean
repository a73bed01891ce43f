/- A write alone that comes again; no program in sight. -/
import Derived.Test.YtocfhiafegkfkaaGreatCtWriteR
import Derived.Test.YtocfhiafegkfkaaGreatCtAcc
namespace Go.Proofs.YtocfhiafegkfkaaGreat.Ct
open Go Go.Proofs Go.Proofs.YtocfhiafegkfkaaGreat.Ev
open Go.RowKit

def wrIt : Nat → Wt × Mm → Wt × Mm
  | 0, x => x
  | k + 1, x => wrIt k (wrSt x.1 x.2, wrMe x.1 x.2)
theorem wrIt_add : ∀ (a b : Nat) (x : Wt × Mm), wrIt (a + b) x = wrIt b (wrIt a x)
  | 0, b, x => by rw [Nat.zero_add]; rfl
  | a + 1, b, x => by
    rw [show a + 1 + b = (a + b) + 1 by omega]
    exact wrIt_add a b _
theorem wr_dn {o : Wt} (h : o.dn = true) (m : Mm) : wrSt o m = o ∧ wrMe o m = m := by
  have h7 : o.ph = 9 := beq_nat h
  unfold wrSt wrMe
  rw [h7]
  exact ⟨rfl, rfl⟩
theorem wrIt_dn {o : Wt} (h : o.dn = true) (m : Mm) : ∀ k, wrIt k (o, m) = (o, m)
  | 0 => rfl
  | k + 1 => by
    show wrIt k (wrSt o m, wrMe o m) = _
    rw [(wr_dn h m).1, (wr_dn h m).2]
    exact wrIt_dn h m k
theorem wrRun_it : ∀ (N i : Nat) (o : Wt) (m : Mm), (wrRun N i o m).2 = wrIt N (o, m)
  | 0, _, _, _ => rfl
  | N + 1, i, o, m => by
    unfold wrRun
    by_cases h : o.dn = true
    · rw [if_pos h, wrIt_dn h]
    · rw [if_neg h, wrRun_it N (i + 1)]
      rfl
/-- Some steps, not more than a number, come to something. -/
def WrTo (b : Nat) (x y : Wt × Mm) : Prop := ∃ k, k ≤ b ∧ wrIt k x = y
theorem WrTo.trans {a b : Nat} {x y z : Wt × Mm} (h : WrTo a x y) (h' : WrTo b y z) : WrTo (a + b) x z := by
  obtain ⟨k, hk, e⟩ := h
  obtain ⟨k', hk', e'⟩ := h'
  exact ⟨k + k', by omega, by rw [wrIt_add, e, e']⟩
theorem WrTo.mono {a b : Nat} {x y : Wt × Mm} (h : WrTo a x y) (hab : a ≤ b) : WrTo b x y := by
  obtain ⟨k, hk, e⟩ := h
  exact ⟨k, by omega, e⟩
theorem WrTo.one {r : Wt} {m : Mm} : WrTo 1 (r, m) (wrSt r m, wrMe r m) := ⟨1, Nat.le_refl _, rfl⟩
theorem WrTo.run {b N : Nat} {o o' : Wt} {m m' : Mm} (h : WrTo b (o, m) (o', m')) (hb : b ≤ N) (hd : o'.dn = true) (i : Nat) : (wrRun N i o m).2 = (o', m') := by
  obtain ⟨k, hk, e⟩ := h
  rw [wrRun_it, show N = k + (N - k) by omega, wrIt_add, e, wrIt_dn hd]
theorem wr_JE : ∀ (k : Nat) (r : Wt) (m : Mm) (j' : Jn) (m' : Mm), r.ph = 6 → JE k r.j m j' m' → WrTo k (r, m) (wrJoined r j', m')
  | 0, _, _, _, _, _, h => h.elim
  | k + 1, r, m, j', m', h4, h => by
    have e1 : wrSt r m = wrJoined r (jSt r.j m) := by unfold wrSt; rw [h4]; rfl
    have e2 : wrMe r m = jMe r.j m := by unfold wrMe; rw [h4]; rfl
    rcases h with ⟨h1, h2, _⟩ | ⟨h1, h2⟩
    · refine WrTo.mono ⟨1, Nat.le_refl _, ?_⟩ (by omega)
      show (wrSt r m, wrMe r m) = _
      rw [e1, e2, h1, h2]
    · have e3 : wrJoined r (jSt r.j m) = ⟨r.ph, r.q, r.key, r.slot, r.n, r.w, r.no, r.told, r.ra, r.rk, r.rn, r.oa, r.ok, r.on, r.en, jSt r.j m, r.o, r.lv, r.l, r.r⟩ := by
        unfold wrJoined
        rw [h1]
        rfl
      have ih := wr_JE k ⟨r.ph, r.q, r.key, r.slot, r.n, r.w, r.no, r.told, r.ra, r.rk, r.rn, r.oa, r.ok, r.on, r.en, jSt r.j m, r.o, r.lv, r.l, r.r⟩ (jMe r.j m) j' m' h4 h2
      obtain ⟨k', hk, e⟩ := ih
      refine ⟨k' + 1, by omega, ?_⟩
      show wrIt k' (wrSt r m, wrMe r m) = _
      rw [e1, e2, e3, e]
      rfl
theorem wr_OE : ∀ (k : Nat) (r : Wt) (m : Mm) (o' : On) (m' : Mm), r.ph = 7 → OE k r.o m o' m' → WrTo k (r, m) (wrOwned r o', m')
  | 0, _, _, _, _, _, h => h.elim
  | k + 1, r, m, o', m', h5, h => by
    have e1 : wrSt r m = wrOwned r (oSt r.o m) := by unfold wrSt; rw [h5]; rfl
    have e2 : wrMe r m = oMe r.o m := by unfold wrMe; rw [h5]; rfl
    rcases h with ⟨h1, h2, _⟩ | ⟨h1, h2⟩
    · refine WrTo.mono ⟨1, Nat.le_refl _, ?_⟩ (by omega)
      show (wrSt r m, wrMe r m) = _
      rw [e1, e2, h1, h2]
    · have e3 : wrOwned r (oSt r.o m) = ⟨r.ph, r.q, r.key, r.slot, r.n, r.w, r.no, r.told, r.ra, r.rk, r.rn, r.oa, r.ok, r.on, r.en, r.j, oSt r.o m, r.lv, r.l, r.r⟩ := by
        unfold wrOwned
        rw [h1]
        rfl
      have ih := wr_OE k ⟨r.ph, r.q, r.key, r.slot, r.n, r.w, r.no, r.told, r.ra, r.rk, r.rn, r.oa, r.ok, r.on, r.en, r.j, oSt r.o m, r.lv, r.l, r.r⟩ (oMe r.o m) o' m' h5 h2
      obtain ⟨k', hk, e⟩ := ih
      refine ⟨k' + 1, by omega, ?_⟩
      show wrIt k' (wrSt r m, wrMe r m) = _
      rw [e1, e2, e3, e]
      rfl
theorem wr_LE : ∀ (k : Nat) (r : Wt) (m : Mm) (o' : Lv) (m' : Mm), r.ph = 8 → LE k r.lv m o' m' → WrTo k (r, m) (wrLeft r o', m')
  | 0, _, _, _, _, _, h => h.elim
  | k + 1, r, m, o', m', h6, h => by
    have e1 : wrSt r m = wrLeft r (lSt r.lv m) := by unfold wrSt; rw [h6]; rfl
    have e2 : wrMe r m = lMe r.lv m := by unfold wrMe; rw [h6]; rfl
    rcases h with ⟨h1, h2, _⟩ | ⟨h1, h2⟩
    · refine WrTo.mono ⟨1, Nat.le_refl _, ?_⟩ (by omega)
      show (wrSt r m, wrMe r m) = _
      rw [e1, e2, h1, h2]
    · have e3 : wrLeft r (lSt r.lv m) = ⟨r.ph, r.q, r.key, r.slot, r.n, r.w, r.no, r.told, r.ra, r.rk, r.rn, r.oa, r.ok, r.on, r.en, r.j, r.o, lSt r.lv m, r.l, r.r⟩ := by
        unfold wrLeft
        rw [h1]
        rfl
      have ih := wr_LE k ⟨r.ph, r.q, r.key, r.slot, r.n, r.w, r.no, r.told, r.ra, r.rk, r.rn, r.oa, r.ok, r.on, r.en, r.j, r.o, lSt r.lv m, r.l, r.r⟩ (lMe r.lv m) o' m' h6 h2
      obtain ⟨k', hk, e⟩ := ih
      refine ⟨k' + 1, by omega, ?_⟩
      show wrIt k' (wrSt r m, wrMe r m) = _
      rw [e1, e2, e3, e]
      rfl
/-- Where a write leaves. -/
structure WrL (r : Wt) (c : Cfg) (m : Mm) (i st e : Int) : Prop where
  ph : r.ph = 8
  slot : r.slot = i
  lv : r.lv = ⟨i, 0, st, false, false⟩
  told : r.told = e
  c : m.c = c
  ok : m.ok
/-- Where it is at another one. -/
structure WrJ (r : Wt) (i n : Int) (L : List Int) (a : Nat) : Prop where
  ph : r.ph = 6
  slot : r.slot = i
  nn : r.n = n
  rr : r.r = L
  at' : (r.oa = 1 ∧ a = 0) ∨ (r.oa = 2 ∧ r.ok + 1 = a ∧ r.on = L.length - a)
  lt : a < L.length
  len : L.length ≤ 12
  j : r.j = ⟨L.getD a 0, 0, i, 0, lookF, n, 0⟩
theorem wr_other {r : Wt} {L : List Int} {a : Nat} (hr : r.r = L) (ha : (r.oa = 1 ∧ a = 0) ∨ (r.oa = 2 ∧ r.ok + 1 = a ∧ r.on = L.length - a)) : r.other = L.getD a 0 := by
  unfold Wt.other
  rw [hr]
  rcases ha with ⟨h1, h2⟩ | ⟨h1, h2, _⟩
  · rw [h1, h2]; rfl
  · rw [h1]
    show L.getD (r.ok + 1) 0 = _
    rw [h2]
theorem WrJ.next {r : Wt} {i n : Int} {L : List Int} {a : Nat} (hp : r.slot = i) (hn : r.n = n) (hr : r.r = L) (ha : (r.oa = 1 ∧ a = 0) ∨ (r.oa = 2 ∧ r.ok + 1 = a ∧ r.on = L.length - a)) (hlen : L.length ≤ 12) (hlt : a < L.length) :
    (a + 1 = L.length ∧ r.next.ph = 8 ∧ r.next.slot = i ∧ r.next.lv = ⟨i, 0, -1, false, false⟩ ∧ r.next.told = 0) ∨ (a + 1 < L.length ∧ WrJ r.next i n L (a + 1)) := by
  have hl : lenS r.r.length r.on r.oa = L.length - a := by
    rw [hr]
    rcases ha with ⟨h1, h2⟩ | ⟨h1, _, h3⟩
    · rw [h1, h2]; rfl
    · rw [h1]; exact h3
  have hk : nxtS r.ok r.oa = a := by
    rcases ha with ⟨h1, h2⟩ | ⟨h1, h2, _⟩
    · rw [h1, h2]; rfl
    · rw [h1]; exact h2
  unfold Wt.next
  rw [hl, hk]
  by_cases h : a + 1 = L.length
  · rw [if_pos (by omega)]
    exact .inl ⟨h, rfl, hp, by show (⟨r.slot, 0, -1, false, false⟩ : Lv) = _; rw [hp], rfl⟩
  · rw [if_neg (by omega)]
    exact .inr ⟨by omega, rfl, hp, hn, hr, .inr ⟨rfl, rfl, by show L.length - a - 1 = _; omega⟩, by omega, hlen, by show rdJoin (r.r.getD (a + 1) 0) 0 r.slot r.n = _; rw [hr, hp, hn]; rfl⟩
/-- From one of the others on to the leaving. -/
theorem wr_list {c : Cfg} (hr : c.Right) {i n : Int} {L : List Int} (hi0 : 0 ≤ i) (hi1 : i < c.s) (hL : ∀ x ∈ L, 0 ≤ x) : ∀ (d a : Nat) (r : Wt) (m : Mm), L.length - a = d → WrJ r i n L a → m.c = c → m.ok →
    ∃ r' m' st e, WrTo (5 * d) (r, m) (r', m') ∧ WrL r' c m' i st e ∧ ((cfs c i 1 n m.w (L.drop a) = (m'.w, true) ∧ st = -1 ∧ e = 0) ∨ (cfs c i 1 n m.w (L.drop a) = (m'.w, false) ∧ st = 5 ∧ e = 7))
  | 0, a, r, m, hd, hj, _, _ => by have := hj.lt; omega
  | d + 1, a, r, m, hd, hj, hc, hm => by
    have hx0 : 0 ≤ L.getD a 0 := hL _ (by rw [List.getD_eq_getElem?_getD, List.getElem?_eq_getElem hj.lt]; exact List.getElem_mem hj.lt)
    obtain ⟨j', m1, hJ, hc1, hm1, hout⟩ := join_alone (c := c) (m := m) (x := L.getD a 0) (sd := 0) (by' := i) (n := n) hr hm hc hx0
    have t1 := wr_JE 3 r m j' m1 hj.ph (by rw [hj.j]; exact hJ)
    rw [drop_cons hj.lt]
    have next : ∀ (r2 : Wt) (m2 : Mm) (b : Nat), r2.slot = i → r2.n = n → r2.r = L → ((r2.oa = 1 ∧ a = 0) ∨ (r2.oa = 2 ∧ r2.ok + 1 = a ∧ r2.on = L.length - a)) → m2.c = c → m2.ok → b ≤ 5 → WrTo b (r, m) (r2.next, m2) →
        ∃ r' m' st e, WrTo (5 * (d + 1)) (r, m) (r', m') ∧ WrL r' c m' i st e ∧ ((cfs c i 1 n m2.w (L.drop (a + 1)) = (m'.w, true) ∧ st = -1 ∧ e = 0) ∨ (cfs c i 1 n m2.w (L.drop (a + 1)) = (m'.w, false) ∧ st = 5 ∧ e = 7)) := fun r2 m2 b h1 h2 h3 h4 h5 h6 hb ht => by
      rcases WrJ.next h1 h2 h3 h4 hj.len hj.lt with ⟨e1, e2, e3, e4, e5⟩ | ⟨e1, e2⟩
      · refine ⟨_, _, -1, 0, ht.mono (by omega), ⟨e2, e3, e4, e5, h5, h6⟩, .inl ⟨?_, rfl, rfl⟩⟩
        rw [e1, List.drop_length]
        rfl
      · obtain ⟨r', m', st, e, q1, q2, q3⟩ := wr_list hr hi0 hi1 hL d (a + 1) r2.next m2 (by omega) e2 h5 h6
        exact ⟨r', m', st, e, (ht.trans q1).mono (by omega), q2, q3⟩
    rcases hout with ⟨hg, h1, hw⟩ | ⟨hg, hb, h3, hw⟩ | ⟨hg, hb, h2, hw⟩
    · have e1 : wrJoined r j' = Wt.next ⟨r.ph, r.q, r.key, r.slot, r.n, r.w, r.no, r.told, r.ra, r.rk, r.rn, r.oa, r.ok, r.on, r.en, j', r.o, r.lv, r.l, r.r⟩ := by
        unfold wrJoined; rw [h1]; rfl
      rw [e1] at t1
      obtain ⟨r', m', st, e, q1, q2, q3⟩ := next ⟨r.ph, r.q, r.key, r.slot, r.n, r.w, r.no, r.told, r.ra, r.rk, r.rn, r.oa, r.ok, r.on, r.en, j', r.o, r.lv, r.l, r.r⟩ m1 3 hj.slot hj.nn hj.rr hj.at' hc1 hm1 (by omega) t1
      refine ⟨r', m', st, e, q1, q2, ?_⟩
      rw [hw] at q3
      unfold cfs
      rw [if_pos hg]
      exact q3
    · have e1 : wrJoined r j' = Wt.ends ⟨r.ph, r.q, r.key, r.slot, r.n, r.w, r.no, r.told, r.ra, r.rk, r.rn, r.oa, r.ok, r.on, r.en, j', r.o, r.lv, r.l, r.r⟩ 5 7 := by
        unfold wrJoined; rw [h3]; rfl
      rw [e1] at t1
      refine ⟨_, _, 5, 7, t1.mono (by omega), ⟨rfl, hj.slot, by show (⟨r.slot, 0, 5, false, false⟩ : Lv) = _; rw [hj.slot], rfl, hc1, hm1⟩, .inr ⟨?_, rfl, rfl⟩⟩
      unfold cfs
      rw [if_neg (by rw [hg]; decide), if_pos (by rw [show (1 : Int) - 1 = 0 from rfl]; exact hb), hw]
    · have e1 : wrJoined r j' = ⟨7, 4, r.key, r.slot, r.n, r.w, r.no, r.told, r.ra, r.rk, r.rn, r.oa, r.ok, r.on, r.en, j', ⟨r.slot, 1, r.other, 0, false, false⟩, r.lv, r.l, r.r⟩ := by
        unfold wrJoined; rw [h2]; rfl
      rw [e1] at t1
      obtain ⟨o', m2, hO, hc2, hm2, hw2⟩ := own_alone (c := c) (m := m1) (i := i) (sd := 1) (x := L.getD a 0) hr hm1 hc1 hi0 hi1
      have t2 := wr_OE 2 ⟨7, 4, r.key, r.slot, r.n, r.w, r.no, r.told, r.ra, r.rk, r.rn, r.oa, r.ok, r.on, r.en, j', ⟨r.slot, 1, r.other, 0, false, false⟩, r.lv, r.l, r.r⟩ m1 o' m2 rfl (by show OE 2 ⟨r.slot, 1, r.other, 0, false, false⟩ m1 o' m2; rw [hj.slot, wr_other hj.rr hj.at']; exact hO)
      have hdn : o'.dn = true := by
        have key : ∀ (k : Nat) (o : On) (m : Mm), OE k o m o' m2 → o'.dn = true := fun k => by
          induction k with
          | zero => intro o m h; exact h.elim
          | succ k ih =>
            intro o m h
            rcases h with ⟨_, _, h⟩ | ⟨_, h⟩
            · exact h
            · exact ih _ _ h
        exact key _ _ _ hO
      have e2 : wrOwned ⟨7, 4, r.key, r.slot, r.n, r.w, r.no, r.told, r.ra, r.rk, r.rn, r.oa, r.ok, r.on, r.en, j', ⟨r.slot, 1, r.other, 0, false, false⟩, r.lv, r.l, r.r⟩ o' = Wt.next ⟨7, 4, r.key, r.slot, r.n, r.w, r.no, r.told, r.ra, r.rk, r.rn, r.oa, r.ok, r.on, r.en, j', o', r.lv, r.l, r.r⟩ := by
        unfold wrOwned; rw [if_pos hdn]
      rw [e2] at t2
      obtain ⟨r', m', st, e, q1, q2, q3⟩ := next ⟨7, 4, r.key, r.slot, r.n, r.w, r.no, r.told, r.ra, r.rk, r.rn, r.oa, r.ok, r.on, r.en, j', o', r.lv, r.l, r.r⟩ m2 5 hj.slot hj.nn hj.rr hj.at' hc2 hm2 (by omega) (t1.trans t2)
      refine ⟨r', m', st, e, q1, q2, ?_⟩
      have ew : m2.w = cfTwo c m.w i 1 (L.getD a 0) := by
        rw [hw2, hw]
        rfl
      rw [ew] at q3
      unfold cfs
      rw [if_neg (by rw [hg]; decide), if_neg (by rw [show (1 : Int) - 1 = 0 from rfl, hb]; decide)]
      exact q3
/-- What it holds from its beginning on. -/
structure WrB (r : Wt) (i n w key : Int) : Prop where
  slot : r.slot = i
  nn : r.n = n
  ww : r.w = w
  kk : r.key = key
/-- Where it is at a rival. -/
structure WrV (r : Wt) (i n w key : Int) (L : List Int) (a : Nat) : Prop where
  b : WrB r i n w key
  ll : r.l = L
  at' : (r.ra = 1 ∧ a = 0) ∨ (r.ra = 2 ∧ r.rk + 1 = a ∧ r.rn = L.length - a)
  lt : a < L.length
theorem WrV.head {r : Wt} {i n w key : Int} {L : List Int} {a : Nat} (h : WrV r i n w key L a) : r.head = L.getD a 0 := by
  unfold Wt.head
  rw [h.ll]
  rcases h.at' with ⟨h1, h2⟩ | ⟨h1, h2, _⟩
  · rw [h1, h2]; rfl
  · rw [h1]
    show L.getD (r.rk + 1) 0 = _
    rw [h2]
theorem WrV.passes {r : Wt} {i n w key : Int} {L : List Int} {a : Nat} (h : WrV r i n w key L a) : (a + 1 = L.length ∧ ∃ r2, WrB r2 i n w key ∧ r.passes = r2.clear) ∨ (a + 1 < L.length ∧ WrV r.passes i n w key L (a + 1) ∧ r.passes.ph = 3) := by
  have hlt := h.lt
  have hl : lenS r.l.length r.rn r.ra = L.length - a := by
    rw [h.ll]
    rcases h.at' with ⟨h1, h2⟩ | ⟨h1, _, h3⟩
    · rw [h1, h2]; rfl
    · rw [h1]; exact h3
  have hk : nxtS r.rk r.ra = a := by
    rcases h.at' with ⟨h1, h2⟩ | ⟨h1, h2, _⟩
    · rw [h1, h2]; rfl
    · rw [h1]; exact h2
  unfold Wt.passes
  rw [hl, hk]
  unfold Wt.goes
  by_cases he : a + 1 = L.length
  · refine .inl ⟨he, ⟨r.ph, r.q, r.key, r.slot, r.n, r.w, r.no, r.told, 2, a, L.length - a - 1, r.oa, r.ok, r.on, r.en, r.j, r.o, r.lv, r.l, r.r⟩, ⟨h.b.slot, h.b.nn, h.b.ww, h.b.kk⟩, ?_⟩
    rw [if_pos (show lenS _ (L.length - a - 1) 2 = 0 by show L.length - a - 1 = 0; omega)]
  · rw [if_neg (show ¬ lenS _ (L.length - a - 1) 2 = 0 by show ¬ L.length - a - 1 = 0; omega)]
    exact .inr ⟨by omega, ⟨⟨h.b.slot, h.b.nn, h.b.ww, h.b.kk⟩, h.ll, .inr ⟨rfl, rfl, by show L.length - a - 1 = _; omega⟩, by omega⟩, rfl⟩
theorem any_cons {L : List Int} {a : Nat} (h : a < L.length) (p : Int → Bool) : (L.drop a).any p = (p (L.getD a 0) || (L.drop (a + 1)).any p) := by
  rw [drop_cons h, List.any_cons]
/-- From a rival on: to the leaving, or on. -/
theorem wr_rivals {c : Cfg} {i n w key : Int} {L : List Int} : ∀ (d a : Nat) (r : Wt) (m : Mm), L.length - a = d → WrV r i n w key L a → r.ph = 3 → m.c = c → m.ok →
    ∃ r' m', WrTo (2 * d) (r, m) (r', m') ∧ m'.w = m.w ∧ m'.c = c ∧ m'.ok ∧ (((L.drop a).any (fun x => !gnW c n m.w x) = true ∧ WrL r' c m' i 5 8) ∨ ((L.drop a).any (fun x => !gnW c n m.w x) = false ∧ ∃ r2, WrB r2 i n w key ∧ r' = r2.clear))
  | 0, a, r, m, hd, hj, _, _, _ => by have := hj.lt; omega
  | d + 1, a, r, m, hd, hj, hp, hc, hm => by
    have hlt := hj.lt
    have hok : (mLd m 4 (L.getD a 0)).ok := acc_ok hm rfl
    have e1 : wrSt r m = wrRival r (sWd c m.w (L.getD a 0)) := by
      unfold wrSt
      rw [hp]
      show wrRival r (vAt m 4 r.head) = _
      rw [hj.head, ← hc]
      rfl
    have e2 : wrMe r m = mLd m 4 (L.getD a 0) := by
      unfold wrMe
      rw [hp]
      show mLd m 4 r.head = _
      rw [hj.head]
    have t1 : WrTo 1 (r, m) (wrRival r (sWd c m.w (L.getD a 0)), mLd m 4 (L.getD a 0)) := by
      have := WrTo.one (r := r) (m := m)
      rw [e1, e2] at this
      exact this
    rw [any_cons hlt]
    have clash : ∀ (m2 : Mm) (b : Nat), m2.w = m.w → m2.c = c → m2.ok → b ≤ 2 → gnW c n m.w (L.getD a 0) = false → WrTo b (r, m) (r.ends 5 8, m2) →
        ∃ r' m', WrTo (2 * (d + 1)) (r, m) (r', m') ∧ m'.w = m.w ∧ m'.c = c ∧ m'.ok ∧ (((!gnW c n m.w (L.getD a 0) || (L.drop (a + 1)).any (fun x => !gnW c n m.w x)) = true ∧ WrL r' c m' i 5 8) ∨ ((!gnW c n m.w (L.getD a 0) || (L.drop (a + 1)).any (fun x => !gnW c n m.w x)) = false ∧ ∃ r2, WrB r2 i n w key ∧ r' = r2.clear)) := fun m2 b h1 h2 h3 h4 h5 h6 =>
      ⟨_, _, h6.mono (by omega), h1, h2, h3, .inl ⟨by rw [h5]; rfl, rfl, hj.b.slot, by show (⟨r.slot, 0, 5, false, false⟩ : Lv) = _; rw [hj.b.slot], rfl, h2, h3⟩⟩
    have pass : ∀ (r2 : Wt) (m2 : Mm) (b : Nat), WrV r2 i n w key L a → m2.w = m.w → m2.c = c → m2.ok → b ≤ 2 → gnW c n m.w (L.getD a 0) = true → WrTo b (r, m) (r2.passes, m2) →
        ∃ r' m', WrTo (2 * (d + 1)) (r, m) (r', m') ∧ m'.w = m.w ∧ m'.c = c ∧ m'.ok ∧ (((!gnW c n m.w (L.getD a 0) || (L.drop (a + 1)).any (fun x => !gnW c n m.w x)) = true ∧ WrL r' c m' i 5 8) ∨ ((!gnW c n m.w (L.getD a 0) || (L.drop (a + 1)).any (fun x => !gnW c n m.w x)) = false ∧ ∃ r2, WrB r2 i n w key ∧ r' = r2.clear)) := fun r2 m2 b hv h1 h2 h3 h4 h5 h6 => by
      rw [h5]
      simp only [Bool.not_true, Bool.false_or]
      rcases hv.passes with ⟨q1, r3, q2, q3⟩ | ⟨q1, q2, q3⟩
      · rw [q3] at h6
        refine ⟨_, _, h6.mono (by omega), h1, h2, h3, .inr ⟨?_, r3, q2, rfl⟩⟩
        rw [q1, List.drop_length]
        rfl
      · obtain ⟨r', m', p1, p2, p3, p4, p5⟩ := wr_rivals d (a + 1) r2.passes m2 (by omega) q2 q3 h2 h3
        rw [h1] at p5
        exact ⟨r', m', (h6.trans p1).mono (by omega), p2.trans h1, p3, p4, p5⟩
    have hgn : gnW c n m.w (L.getD a 0) = goneI (sWd c m.w (L.getD a 0)) (nWd c m.w (L.getD a 0)) n := rfl
    generalize hs : sWd c m.w (L.getD a 0) = s at *
    unfold goneI at hgn
    by_cases h2 : nuI s 27 3 = 2
    · have e3 : wrRival r s = r.ends 5 8 := by unfold wrRival; rw [h2]; rfl
      rw [e3] at t1
      exact clash (mLd m 4 (L.getD a 0)) 1 rfl hc hok (by omega) (by rw [hgn, h2]; rfl) t1
    by_cases h3 : nuI s 27 3 = 3
    · have e3 : wrRival r s = r.ends 5 8 := by unfold wrRival; rw [h3]; rfl
      rw [e3] at t1
      exact clash (mLd m 4 (L.getD a 0)) 1 rfl hc hok (by omega) (by rw [hgn, h3]; rfl) t1
    by_cases h4 : nuI s 27 3 = 4
    · have e3 : wrRival r s = r.goto 4 := by unfold wrRival; rw [h4]; rfl
      rw [e3] at t1
      rw [h4, if_pos rfl] at hgn
      have e4 : wrSt (r.goto 4) (mLd m 4 (L.getD a 0)) = (if pastI (nWd c m.w (L.getD a 0)) n = true then (r.goto 4).passes else (r.goto 4).ends 5 8) := by
        show (if pastI (vAt (mLd m 4 (L.getD a 0)) 6 r.head) r.n = true then (r.goto 4).passes else (r.goto 4).ends 5 8) = _
        rw [hj.head, hj.b.nn, ← hc]
        rfl
      have e5 : wrMe (r.goto 4) (mLd m 4 (L.getD a 0)) = mLd (mLd m 4 (L.getD a 0)) 6 (L.getD a 0) := by
        show mLd (mLd m 4 (L.getD a 0)) 6 r.head = _
        rw [hj.head]
      have t2 := WrTo.one (r := r.goto 4) (m := mLd m 4 (L.getD a 0))
      rw [e4, e5] at t2
      cases hp : pastI (nWd c m.w (L.getD a 0)) n with
      | true =>
        rw [hp, if_pos rfl] at t2
        exact pass (r.goto 4) (mLd (mLd m 4 (L.getD a 0)) 6 (L.getD a 0)) 2 ⟨⟨hj.b.slot, hj.b.nn, hj.b.ww, hj.b.kk⟩, hj.ll, hj.at', hj.lt⟩ rfl hc (acc_ok hok rfl) (by omega) (by rw [hgn, hp]) (t1.trans t2)
      | false =>
        rw [hp, if_neg (by decide)] at t2
        exact clash (mLd (mLd m 4 (L.getD a 0)) 6 (L.getD a 0)) 2 rfl hc (acc_ok hok rfl) (by omega) (by rw [hgn, hp]) (t1.trans t2)
    · have b2 : (nuI s 27 3 == 2) = false := beq_false_of_ne h2
      have b3 : (nuI s 27 3 == 3) = false := beq_false_of_ne h3
      have b4 : (nuI s 27 3 == 4) = false := beq_false_of_ne h4
      have e3 : wrRival r s = r.passes := by
        unfold wrRival
        simp only [b2, b3, b4, Bool.false_eq_true, if_false]
      rw [e3] at t1
      exact pass r (mLd m 4 (L.getD a 0)) 1 hj rfl hc hok (by omega) (by rw [hgn, if_neg h4, b2, b3]; rfl) t1
/-- Behind the rivals: the mark. -/
theorem wr_clear {c : Cfg} (hr : c.Right) {i n w key : Int} (k0 : 0 ≤ key) (k1 : key < c.k) {r : Wt} {m : Mm} (hb : WrB r i n w key) (hc : m.c = c) (hm : m.ok) (hk : kWd c m.w key = w) :
    ∃ r' m', WrTo 1 (r.clear, m) (r'.found, m') ∧ WrB r' i n w key ∧ m'.w = setW m.w (cellIx c 8 key) (withI w 1 i) ∧ m'.c = c ∧ m'.ok := by
  have hl8 := ix_key_rng hr k0 k1
  unfold Wt.clear
  rw [hb.ww, hb.slot]
  cases hh : hasI w 1 i with
  | true =>
    rw [if_pos rfl]
    exact ⟨r, m, ⟨0, by omega, rfl⟩, hb, by rw [withI_has hh, setW_eq hk], hc, hm⟩
  | false =>
    rw [if_neg (by decide)]
    have hd : dnS m 8 key w = true := dnS_hit (by rw [hc]; exact hl8.1) (by rw [hc]; exact hk)
    refine ⟨r.goto 5, mSw m 8 key w (withI w 1 i), ⟨1, Nat.le_refl _, ?_⟩, ⟨hb.slot, hb.nn, hb.ww, hb.kk⟩, ?_, hc, acc_ok hm (swpW_len _ _ _ _)⟩
    · show (if dnS m 8 r.key r.w = true then (r.goto 5).found else (r.goto 5).goto 2, mSw m 8 r.key r.w (withI r.w 1 r.slot)) = _
      rw [hb.kk, hb.ww, hb.slot, hd, if_pos rfl]
    · show swpW m.w (cellIx m.c 8 key) w _ = _
      rw [hc]
      exact swpW_hit hk
/-- Behind the mark: the others. -/
theorem wr_found {c : Cfg} (hr : c.Right) {i n w key : Int} (i0 : 0 ≤ i) (i1 : i < c.s) {r : Wt} {m : Mm} (hb : WrB r i n w key) (hc : m.c = c) (hm : m.ok) :
    ∃ r' m' st e, WrTo 60 (r.found, m) (r', m') ∧ WrL r' c m' i st e ∧ ((cfs c i 1 n m.w (othL w 0 i) = (m'.w, true) ∧ st = -1 ∧ e = 0) ∨ (cfs c i 1 n m.w (othL w 0 i) = (m'.w, false) ∧ st = 5 ∧ e = 7)) := by
  have hL : ∀ x ∈ othL w 0 i, 0 ≤ x := fun x hx => (oth_mem hx).1
  have hO : rdO r = othL w 0 i := by show othL r.w 0 r.slot = _; rw [hb.ww, hb.slot]
  unfold Wt.found
  rw [hO]
  by_cases hnil : othL w 0 i = []
  · rw [if_pos hnil]
    refine ⟨_, m, -1, 0, ⟨0, by omega, rfl⟩, ⟨rfl, hb.slot, ?_, rfl, hc, hm⟩, .inl ⟨by rw [hnil]; rfl, rfl, rfl⟩⟩
    show (⟨r.slot, 0, -1, false, false⟩ : Lv) = _
    rw [hb.slot]
  · rw [if_neg hnil]
    have hp := getD_nil hnil
    obtain ⟨r5, m5, st, e, a1, a2, a3⟩ := wr_list hr (i := i) (n := n) (L := othL w 0 i) i0 i1 hL (othL w 0 i).length 0 ⟨6, qj r.q, r.key, r.slot, r.n, r.w, r.no, r.told, r.ra, r.rk, r.rn, 1, r.ok, r.on, r.en, rdJoin ((othL w 0 i).getD 0 0) 0 r.slot r.n, r.o, r.lv, r.l, othL w 0 i⟩ m rfl
      ⟨rfl, hb.slot, hb.nn, rfl, .inl ⟨rfl, rfl⟩, hp, oth_len _ _ _, by show rdJoin _ 0 r.slot r.n = _; rw [hb.slot, hb.nn]; rfl⟩ hc hm
    exact ⟨r5, m5, st, e, a1.mono (by have := oth_len w 0 i; omega), a2, a3⟩
/-- Whether a rival goes on. -/
def wrClash (c : Cfg) (w : List Int) (i key : Int) : Bool := (othL (kWd c w key) 1 i).any (fun x => !gnW c (snWd c w i) w x)
abbrev wrA (c : Cfg) (w : List Int) (i key : Int) : List Int × List Int × Bool := acc c i 1 (snWd c w i) (setW w (cellIx c 8 key) (withI (kWd c w key) 1 i)) (othL (kWd c w key) 0 i)
def wrEnd (c : Cfg) (w : List Int) (i key : Int) : List Int × Int :=
  if wrClash c w i key = true then (putS c w i (mvI (sWd c w i) 5 false), 8)
  else (putS c (wrA c w i key).1 i (mvI (wths 1 (wrA c w i key).2.1 (sWd c w i)) (if (wrA c w i key).2.2 = true then 2 else 5) false), if (wrA c w i key).2.2 = true then 0 else 7)
def wrWant (c : Cfg) (w : List Int) (h key : Int) : List Int × Int :=
  if rdNewE c h key ≠ 0 then (w, rdNewE c h key)
  else if fltR (sWd c w (tkS h)) h ≠ 0 then (w, fltR (sWd c w (tkS h)) h)
  else wrEnd c w (tkS h) key
theorem wrOf_not {c : Cfg} {h key : Int} (he : rdNewE c h key ≠ 0) : wrOf c h key = wrNot h (rdNewE c h key) := by
  unfold rdNewE at he ⊢
  unfold wrOf
  by_cases k1 : key < 0
  · rw [if_pos k1, if_pos k1]
  · rw [if_neg k1] at he ⊢
    rw [if_neg k1]
    by_cases k2 : key ≥ c.k
    · rw [if_pos k2, if_pos k2]
    · rw [if_neg k2] at he ⊢
      rw [if_neg k2]
      by_cases k3 : ofOk h c.s = true
      · rw [if_pos k3] at he; exact absurd rfl he
      · rw [if_neg k3, if_neg k3]
theorem wrOf_new {c : Cfg} {h key : Int} (he : rdNewE c h key = 0) : wrOf c h key = wrNew h (tkS h) key := by
  obtain ⟨k0, k1, ho⟩ := newE_ok he
  unfold wrOf
  rw [if_neg (by omega), if_neg (by omega), if_pos ho]
theorem leave_dn {v : Lv} {m' : Mm} : ∀ (k : Nat) (o : Lv) (m : Mm), LE k o m v m' → v.dn = true := fun k => by
  induction k with
  | zero => intro o m h; exact h.elim
  | succ k ih =>
    intro o m h
    rcases h with ⟨_, _, h⟩ | ⟨_, h⟩
    · exact h
    · exact ih _ _ h
/-- It leaves. -/
theorem wr_leave {c : Cfg} (hr : c.Right) {i st e : Int} (i0 : 0 ≤ i) (i1 : i < c.s) {r : Wt} {m : Mm} (hL : WrL r c m i st e) :
    ∃ r' m', WrTo 2 (r, m) (r', m') ∧ r'.dn = true ∧ r'.no = e ∧ m'.c = c ∧ m'.ok ∧ m'.w = setW m.w (cellIx c 4 i) (mvI (sWd c m.w i) (lvS (sWd c m.w i) st) false) := by
  obtain ⟨v', m6, hLE, hc6, hok6, hw6⟩ := leave_alone (c := c) (m := m) (i := i) (st := st) hr hL.ok hL.c i0 i1
  have t6 := wr_LE 2 r m v' m6 hL.ph (by rw [hL.lv]; exact hLE)
  have hdn : v'.dn = true := leave_dn 2 _ _ hLE
  have e6 : wrLeft r v' = ⟨9, r.q, r.key, r.slot, r.n, r.w, r.told, r.told, r.ra, r.rk, r.rn, r.oa, r.ok, r.on, r.en, r.j, r.o, v', r.l, r.r⟩ := by
    unfold wrLeft; rw [if_pos hdn]
  rw [e6] at t6
  exact ⟨_, m6, t6, rfl, hL.told, hc6, hok6, hw6⟩
theorem wr_alone {c : Cfg} (hr : c.Right) {m : Mm} (hc : m.c = c) (hm : m.ok) (h key : Int) :
    ∃ r' m', WrTo 100 (wrOf c h key, m) (r', m') ∧ r'.dn = true ∧ m'.c = c ∧ m'.ok ∧ r'.no = (wrWant c m.w h key).2 ∧ m'.w = (wrWant c m.w h key).1 := by
  unfold wrWant
  by_cases he : rdNewE c h key = 0
  · rw [if_neg (fun x => x he)]
    obtain ⟨k0, k1, ho⟩ := newE_ok he
    obtain ⟨i0, i1, i2⟩ := ofOk_rng ho
    have ho' : ofOk h m.c.s = true := by rw [hc]; exact ho
    rw [wrOf_new he]
    unfold wrNew
    generalize hi : tkS h = i at *
    generalize hs : sWd c m.w i = s at *
    have hl4 := ix_i hr i0 i1 (w := m.w) (by rw [hm.2, hc])
    have hlen : (m.w.length : Int) = c.len := by rw [hm.2, hc]
    -- the first step: it looks
    obtain ⟨q1, q2⟩ := en_look (h := h) (m := m) ho'
    rw [hi, show sWd m.c m.w i = s by rw [hc]; exact hs] at q1
    rw [hi] at q2
    have t1 : WrTo 1 ((⟨0, 1, key, i, 0, 0, 0, 0, 0, 0, 0, 0, 0, 0, ⟨i, 0, h, false, false, 0, 0⟩, ⟨0, 0, 0, 0, lookF, 0, 0⟩, ⟨0, 0, 0, 0, false, false⟩, ⟨0, 0, 0, false, false⟩, [], []⟩ : Wt), m)
        (wrEnter (⟨0, 1, key, i, 0, 0, 0, 0, 0, 0, 0, 0, 0, 0, ⟨i, 0, h, false, false, 0, 0⟩, ⟨0, 0, 0, 0, lookF, 0, 0⟩, ⟨0, 0, 0, 0, false, false⟩, ⟨0, 0, 0, false, false⟩, [], []⟩ : Wt) ⟨i, s, h, row2, fltR s h == 0, fltR s h != 0, fltR s h, 0⟩ (mLd m 4 i), mLd m 4 i) := by
      refine ⟨1, Nat.le_refl _, ?_⟩
      rw [← q1, ← q2]
      rfl
    have hok1 : (mLd m 4 i).ok := acc_ok hm rfl
    have ho1 : ofOk h (mLd m 4 i).c.s = true := ho'
    by_cases hf : fltR s h = 0
    · rw [if_neg (fun x => x hf)]
      obtain ⟨f1, f2, f3⟩ := flt_ok hf
      rw [hf] at t1
      have e1 : wrEnter (⟨0, 1, key, i, 0, 0, 0, 0, 0, 0, 0, 0, 0, 0, ⟨i, 0, h, false, false, 0, 0⟩, ⟨0, 0, 0, 0, lookF, 0, 0⟩, ⟨0, 0, 0, 0, false, false⟩, ⟨0, 0, 0, false, false⟩, [], []⟩ : Wt) ⟨i, s, h, row2, (0 : Int) == 0, (0 : Int) != 0, 0, 0⟩ (mLd m 4 i) = (⟨0, 1, key, i, 0, 0, 0, 0, 0, 0, 0, 0, 0, 0, ⟨i, s, h, true, false, 0, 0⟩, ⟨0, 0, 0, 0, lookF, 0, 0⟩, ⟨0, 0, 0, 0, false, false⟩, ⟨0, 0, 0, false, false⟩, [], []⟩ : Wt) := by
        unfold wrEnter
        simp only [ho1]
        rfl
      rw [e1] at t1
      -- the second: it takes
      have hd : dnS (mLd m 4 i) 4 i s = true := dnS_hit (by show 0 ≤ cellIx m.c 4 i; rw [hc]; exact hl4.1) (by show getW m.w (cellIx m.c 4 i) = s; rw [hc]; exact hs)
      obtain ⟨q3, q4⟩ := en_swap (h := h) (s := s) (m := mLd m 4 i) ho1 (by rw [hi]; exact hd)
      rw [hi, f2] at q3 q4
      have hok2 : (mSw (mLd m 4 i) 4 i s (mvI s 2 true)).ok := acc_ok hok1 (swpW_len _ _ _ _)
      have ho2 : ofOk h (mSw (mLd m 4 i) 4 i s (mvI s 2 true)).c.s = true := ho'
      have t2 : WrTo 1 ((⟨0, 1, key, i, 0, 0, 0, 0, 0, 0, 0, 0, 0, 0, ⟨i, s, h, true, false, 0, 0⟩, ⟨0, 0, 0, 0, lookF, 0, 0⟩, ⟨0, 0, 0, 0, false, false⟩, ⟨0, 0, 0, false, false⟩, [], []⟩ : Wt), mLd m 4 i)
          ((⟨1, 1, key, i, 0, 0, 0, 0, 0, 0, 0, 0, 0, 0, ⟨i, s, h, false, true, 0, mvI s 2 true⟩, ⟨0, 0, 0, 0, lookF, 0, 0⟩, ⟨0, 0, 0, 0, false, false⟩, ⟨0, 0, 0, false, false⟩, [], []⟩ : Wt), mSw (mLd m 4 i) 4 i s (mvI s 2 true)) := by
        refine ⟨1, Nat.le_refl _, ?_⟩
        show (wrEnter _ (enSt (Et.w2 ⟨i, s, h, true, false, 0, 0⟩) (mLd m 4 i)) (enMe (Et.w2 ⟨i, s, h, true, false, 0, 0⟩) (mLd m 4 i)), enMe (Et.w2 ⟨i, s, h, true, false, 0, 0⟩) (mLd m 4 i)) = _
        rw [q3, q4]
        unfold wrEnter errI
        simp only [ho2]
        rfl
      obtain ⟨m2, hm2⟩ : ∃ m2, mSw (mLd m 4 i) 4 i s (mvI s 2 true) = m2 := ⟨_, rfl⟩
      have hc2 : m2.c = c := by rw [← hm2]; exact hc
      have hw2 : m2.w = putS c m.w i (mvI s 2 true) := by
        rw [← hm2]
        show swpW m.w (cellIx m.c 4 i) s _ = _
        rw [hc]
        exact swpW_hit hs
      rw [hm2] at t2 hok2
      -- the third: its snapshot, and the key
      have hsn : getW m2.w (cellIx m2.c 5 i) = snWd c m.w i := by
        rw [hc2, hw2]
        exact getW_set_ne (ix_ne hr (.inl rfl) (.inr (.inl rfl)) i0 i1 i0 i1 (.inl (by decide)))
      have hky : getW m2.w (cellIx m2.c 8 key) = kWd c m.w key := by
        rw [hc2, hw2]
        exact getW_set_ne (ix_nek hr (.inl rfl) i0 i1 k0 k1)
      unfold wrEnd wrClash wrA
      rw [hs]
      generalize hn : snWd c m.w i = n at *
      generalize hk : kWd c m.w key = kw at *
      have t3 : WrTo 2 ((⟨1, 1, key, i, 0, 0, 0, 0, 0, 0, 0, 0, 0, 0, ⟨i, s, h, false, true, 0, mvI s 2 true⟩, ⟨0, 0, 0, 0, lookF, 0, 0⟩, ⟨0, 0, 0, 0, false, false⟩, ⟨0, 0, 0, false, false⟩, [], []⟩ : Wt), m2)
          (wrLook (⟨2, 1, key, i, n, 0, 0, 0, 0, 0, 0, 0, 0, 0, ⟨i, s, h, false, true, 0, mvI s 2 true⟩, ⟨0, 0, 0, 0, lookF, 0, 0⟩, ⟨0, 0, 0, 0, false, false⟩, ⟨0, 0, 0, false, false⟩, [], []⟩ : Wt) kw, mLd (mLd m2 5 i) 8 key) := by
        refine ⟨2, Nat.le_refl _, ?_⟩
        show (wrLook (⟨2, 1, key, i, getW m2.w (cellIx m2.c 5 i), 0, 0, 0, 0, 0, 0, 0, 0, 0, ⟨i, s, h, false, true, 0, mvI s 2 true⟩, ⟨0, 0, 0, 0, lookF, 0, 0⟩, ⟨0, 0, 0, 0, false, false⟩, ⟨0, 0, 0, false, false⟩, [], []⟩ : Wt) (getW m2.w (cellIx m2.c 8 key)), mLd (mLd m2 5 i) 8 key) = _
        rw [hsn, hky]
      obtain ⟨m3, hm3⟩ : ∃ m3, mLd (mLd m2 5 i) 8 key = m3 := ⟨_, rfl⟩
      have hc3 : m3.c = c := by rw [← hm3]; exact hc2
      have hok3 : m3.ok := by rw [← hm3]; exact acc_ok (acc_ok hok2 rfl) rfl
      have hw3 : m3.w = putS c m.w i (mvI s 2 true) := by rw [← hm3]; exact hw2
      have hk3 : kWd c m3.w key = kw := by rw [hw3, ← hk]; exact kWd_put hr i0 i1 k0 k1 _ _
      rw [hm3] at t3
      -- the rivals
      have hgn : (othL kw 1 i).any (fun x => !gnW c n m3.w x) = (othL kw 1 i).any (fun x => !gnW c n m.w x) := by
        have : ∀ x ∈ othL kw 1 i, gnW c n m3.w x = gnW c n m.w x := fun x hx => by
          obtain ⟨x0, _, x1, _⟩ := oth_mem hx
          unfold gnW
          rw [hw3, sWd_put_ne hr i0 i1 x0 x1, nWd_put hr i0 i1 x0]
        have key : ∀ L : List Int, (∀ x ∈ L, gnW c n m3.w x = gnW c n m.w x) → L.any (fun x => !gnW c n m3.w x) = L.any (fun x => !gnW c n m.w x) := fun L => by
          induction L with
          | nil => intro _; rfl
          | cons x xs ih =>
            intro h
            rw [List.any_cons, List.any_cons, h x (List.mem_cons_self ..), ih fun y hy => h y (List.mem_cons_of_mem _ hy)]
        exact key _ this
      have t4 : ∃ r4 m4, WrTo 24 (wrLook (⟨2, 1, key, i, n, 0, 0, 0, 0, 0, 0, 0, 0, 0, ⟨i, s, h, false, true, 0, mvI s 2 true⟩, ⟨0, 0, 0, 0, lookF, 0, 0⟩, ⟨0, 0, 0, 0, false, false⟩, ⟨0, 0, 0, false, false⟩, [], []⟩ : Wt) kw, m3) (r4, m4) ∧ m4.w = m3.w ∧ m4.c = c ∧ m4.ok ∧ (((othL kw 1 i).any (fun x => !gnW c n m.w x) = true ∧ WrL r4 c m4 i 5 8) ∨ ((othL kw 1 i).any (fun x => !gnW c n m.w x) = false ∧ ∃ r2, WrB r2 i n kw key ∧ r4 = r2.clear)) := by
        unfold wrLook
        by_cases hnil : othL kw 1 i = []
        · refine ⟨_, m3, ⟨0, by omega, rfl⟩, rfl, hc3, hok3, .inr ⟨by rw [hnil]; rfl, (⟨2, 1, key, i, n, kw, 0, 0, 0, 0, 0, 0, 0, 0, ⟨i, s, h, false, true, 0, mvI s 2 true⟩, ⟨0, 0, 0, 0, lookF, 0, 0⟩, ⟨0, 0, 0, 0, false, false⟩, ⟨0, 0, 0, false, false⟩, othL kw 1 i, []⟩ : Wt), ⟨rfl, rfl, rfl, rfl⟩, ?_⟩⟩
          unfold Wt.goes
          simp only [hnil, if_true]
          rfl
        · have hp := getD_nil hnil
          have e4 : Wt.goes (⟨2, 1, key, i, n, kw, 0, 0, if othL kw 1 i = [] then 0 else 1, 0, 0, 0, 0, 0, ⟨i, s, h, false, true, 0, mvI s 2 true⟩, ⟨0, 0, 0, 0, lookF, 0, 0⟩, ⟨0, 0, 0, 0, false, false⟩, ⟨0, 0, 0, false, false⟩, othL kw 1 i, []⟩ : Wt) = (⟨3, 1, key, i, n, kw, 0, 0, 1, 0, 0, 0, 0, 0, ⟨i, s, h, false, true, 0, mvI s 2 true⟩, ⟨0, 0, 0, 0, lookF, 0, 0⟩, ⟨0, 0, 0, 0, false, false⟩, ⟨0, 0, 0, false, false⟩, othL kw 1 i, []⟩ : Wt) := by
            unfold Wt.goes
            have h0 := len_ne hnil
            simp only [hnil, if_false, lenS, h0]
            rfl
          obtain ⟨r4, m4, a1, a2, a3, a4, a5⟩ := wr_rivals (c := c) (i := i) (n := n) (w := kw) (key := key) (L := othL kw 1 i) (othL kw 1 i).length 0 (⟨3, 1, key, i, n, kw, 0, 0, 1, 0, 0, 0, 0, 0, ⟨i, s, h, false, true, 0, mvI s 2 true⟩, ⟨0, 0, 0, 0, lookF, 0, 0⟩, ⟨0, 0, 0, 0, false, false⟩, ⟨0, 0, 0, false, false⟩, othL kw 1 i, []⟩ : Wt) m3 rfl ⟨⟨rfl, rfl, rfl, rfl⟩, rfl, .inl ⟨rfl, rfl⟩, hp⟩ rfl hc3 hok3
          rw [List.drop_zero, hgn] at a5
          refine ⟨r4, m4, ?_, a2, a3, a4, a5⟩
          show WrTo 24 (Wt.goes (⟨2, 1, key, i, n, kw, 0, 0, if othL kw 1 i = [] then 0 else 1, 0, 0, 0, 0, 0, ⟨i, s, h, false, true, 0, mvI s 2 true⟩, ⟨0, 0, 0, 0, lookF, 0, 0⟩, ⟨0, 0, 0, 0, false, false⟩, ⟨0, 0, 0, false, false⟩, othL kw 1 i, []⟩ : Wt), m3) (r4, m4)
          rw [e4]
          exact a1.mono (by have := oth_len kw 1 i; omega)
      obtain ⟨r4, m4, t4, hw4, hc4, hok4, h4⟩ := t4
      rcases h4 with ⟨hcl, hL4⟩ | ⟨hcl, r2, hb2, rfl⟩
      · rw [if_pos hcl]
        obtain ⟨r', m', t6, hdn, hno, hc6, hok6, hw6⟩ := wr_leave hr i0 i1 hL4
        refine ⟨r', m', ((((t1.trans t2).trans t3).trans t4).trans t6).mono (by omega), hdn, hc6, hok6, hno, ?_⟩
        have hlw : ((m.w).length : Int) = c.len := hlen
        have es : sWd c m4.w i = mvI s 2 true := by rw [hw4, hw3]; exact sWd_put_same hr i0 i1 hlw _
        rw [hw6, es, hw4, hw3]
        show putS c (putS c m.w i _) i _ = _
        rw [putS_put, mv_mv]
        rfl
      · rw [if_neg (by rw [hcl]; decide)]
        obtain ⟨r5, m5, t5, hb5, hw5, hc5, hok5⟩ := wr_clear hr k0 k1 hb2 hc4 hok4 (by rw [hw4]; exact hk3)
        have hne : cellIx c 4 i ≠ cellIx c 8 key := ix_nek hr (.inl rfl) i0 i1 k0 k1
        have hw5' : m5.w = putS c (setW m.w (cellIx c 8 key) (withI kw 1 i)) i (mvI s 2 true) := by
          rw [hw5, hw4, hw3]
          exact setW_comm _ hne _ _
        obtain ⟨r6, m6, st, e, t6, hL6, h6⟩ := wr_found hr i0 i1 hb5 hc5 hok5
        have hL : ∀ x ∈ othL kw 0 i, 0 ≤ x ∧ x ≠ i := fun x hx => ⟨(oth_mem hx).1, (oth_mem hx).2.2.1⟩
        generalize hw0 : setW m.w (cellIx c 8 key) (withI kw 1 i) = w0 at *
        have hl0 : (w0.length : Int) = c.len := by rw [← hw0, setW_len]; exact hlen
        have hcf := cfs_acc hr (i := i) (sd := 1) (n := n) i0 i1 (othL kw 0 i) w0 (mvI s 2 true) hL hl0
        rw [hw5', hcf] at h6
        obtain ⟨r', m', t7, hdn, hno, hc7, hok7, hw7⟩ := wr_leave hr i0 i1 hL6
        refine ⟨r', m', ((((((t1.trans t2).trans t3).trans t4).trans t5).trans t6).trans t7).mono (by omega), hdn, hc7, hok7, ?_, ?_⟩
        · rw [hno]
          rcases h6 with ⟨h6, _, rfl⟩ | ⟨h6, _, rfl⟩
          · rw [Prod.mk.injEq] at h6
            simp only [h6.2, if_true]
          · rw [Prod.mk.injEq] at h6
            simp only [h6.2, Bool.false_eq_true, if_false]
        · rw [hw7]
          have hla : ((acc c i 1 n w0 (othL kw 0 i)).1.length : Int) = c.len := by rw [acc_len]; exact hl0
          have fin : ∀ b : Bool, (putS c (acc c i 1 n w0 (othL kw 0 i)).1 i (wths 1 (acc c i 1 n w0 (othL kw 0 i)).2.1 (mvI s 2 true)), (acc c i 1 n w0 (othL kw 0 i)).2.2) = (m6.w, b) → st = (if b = true then -1 else 5) → setW m6.w (cellIx c 4 i) (mvI (sWd c m6.w i) (lvS (sWd c m6.w i) st) false) = putS c (acc c i 1 n w0 (othL kw 0 i)).1 i (mvI (wths 1 (acc c i 1 n w0 (othL kw 0 i)).2.1 s) (if (acc c i 1 n w0 (othL kw 0 i)).2.2 = true then 2 else 5) false) := fun b hb hst => by
            rw [Prod.mk.injEq] at hb
            obtain ⟨b1, b2⟩ := hb
            rw [← b1, sWd_put_same hr i0 i1 hla, wths_mv]
            show putS c (putS c _ i _) i _ = _
            rw [putS_put, mv_mv, b2]
            have hnu : nuI (mvI (wths 1 (acc c i 1 n w0 (othL kw 0 i)).2.1 s) 2 true) 27 3 = 2 := mv_nu _ _ _
            congr 2
            unfold lvS
            rw [hnu, hst]
            cases b <;> rfl
          rcases h6 with ⟨h6, h7, _⟩ | ⟨h6, h7, _⟩
          · exact fin true h6 h7
          · exact fin false h6 h7
    · rw [if_pos hf]
      refine ⟨_, _, t1.mono (by omega), ?_, hc, hok1, ?_, rfl⟩
      · unfold wrEnter errI
        have : (fltR s h != 0) = true := bne_iff_ne.2 hf
        simp only [ho1, this, if_true, Bool.true_or]
        rfl
      · unfold wrEnter errI
        have : (fltR s h != 0) = true := bne_iff_ne.2 hf
        simp only [ho1, this, if_true, Bool.true_or]
  · rw [if_pos he, wrOf_not he]
    exact ⟨_, m, ⟨0, by omega, rfl⟩, rfl, hc, hm, rfl, rfl⟩
theorem wr_run {c : Cfg} (hr : c.Right) {m : Mm} (hc : m.c = c) (hm : m.ok) (h key : Int) {N : Nat} (hN : 100 ≤ N) (k : Nat) :
    (wrRun N k (wrOf c h key) m).2.1.dn = true ∧ (wrRun N k (wrOf c h key) m).2.2.c = c ∧ (wrRun N k (wrOf c h key) m).2.2.ok ∧ (wrRun N k (wrOf c h key) m).2.1.no = (wrWant c m.w h key).2 ∧ (wrRun N k (wrOf c h key) m).2.2.w = (wrWant c m.w h key).1 := by
  obtain ⟨r', m', h1, h2, h3, h4, h5, h6⟩ := wr_alone hr hc hm h key
  have := h1.run hN h2 k
  rw [this]
  exact ⟨h2, h3, h4, h5, h6⟩
end Go.Proofs.YtocfhiafegkfkaaGreat.Ct
namespace Go.Proofs.YtocfhiafegkfkaaGreat.Ct
open Go Go.Proofs Go.Proofs.YtocfhiafegkfkaaGreat.Ev
open Go.RowKit

theorem atI_ne2 {k x i : Int} (hne : x ≠ i) (h : 0 ≤ atI k x) : atI k i ≠ atI k x := by
  unfold atI at h ⊢
  split at h
  · omega
  · rename_i h1
    rw [if_neg h1]
    split <;> omega
/-- One's own mark tells of no other one. -/
theorem oth_own {w k i : Int} : othL (withI w k i) k i = othL w k i := by
  unfold othL butL upK
  rw [List.filter_filter, List.filter_filter]
  refine List.filter_congr fun x _ => ?_
  by_cases hne : x = i
  · rw [decide_eq_false (fun h => h hne), Bool.false_and, Bool.false_and]
  · unfold hasI
    by_cases ha : 0 ≤ atI k (x)
    · rw [with_bit ha (atI_ne2 hne ha)]
    · rw [decide_eq_false ha, Bool.false_and, Bool.false_and]
theorem ix68_ne {c : Cfg} (hr : c.Right) {x key : Int} (hx : 0 ≤ x) (k0 : 0 ≤ key) (k1 : key < c.k) : cellIx c 6 x ≠ cellIx c 8 key := by
  by_cases h : x < c.s
  · exact ix_nek hr (.inr (.inr (.inl rfl))) hx h k0 k1
  · rw [ix_over (k := 6) (n := x) (.inr (.inr (.inl rfl))) (by omega)]
    have := (ix_key_rng hr k0 k1).1
    omega
theorem gn_key {c : Cfg} (hr : c.Right) {n x key : Int} (hx : 0 ≤ x) (k0 : 0 ≤ key) (k1 : key < c.k) (w : List Int) (v : Int) : gnW c n (setW w (cellIx c 8 key) v) x = gnW c n w x := by
  unfold gnW sWd nWd
  rw [getW_set_ne (ix48_ne hr hx k0 k1).symm, getW_set_ne (ix68_ne hr hx k0 k1).symm]
theorem gn_own {c : Cfg} (hr : c.Right) {n x i : Int} (i0 : 0 ≤ i) (i1 : i < c.s) (hx : 0 ≤ x) (hne : x ≠ i) (w : List Int) (v : Int) : gnW c n (putS c w i v) x = gnW c n w x := by
  unfold gnW
  rw [sWd_put_ne hr i0 i1 hx hne, nWd_put hr i0 i1 hx]
theorem any_gn {p q : Int → Bool} : ∀ L : List Int, (∀ x ∈ L, p x = q x) → L.any (fun x => !p x) = L.any (fun x => !q x)
  | [], _ => rfl
  | x :: xs, h => by rw [List.any_cons, List.any_cons, h x List.mem_cons_self, any_gn xs fun y hy => h y (List.mem_cons_of_mem _ hy)]
theorem flt_5 {s h : Int} (h5 : nuI s 27 3 = 5) : fltR s h ≠ 0 := fun e => by
  have := (flt_ok e).2.1
  omega
theorem wend_twice {c : Cfg} (hr : c.Right) {w : List Int} (hl : (w.length : Int) = c.len) (hw : WfW w) {h i key : Int} (i0 : 0 ≤ i) (i1 : i < c.s) (i2 : i ≤ 11) (k0 : 0 ≤ key) (k1 : key < c.k) (hf : fltR (sWd c w i) h = 0) :
    ((wrEnd c w i key).2 = 0 → fltR (sWd c (wrEnd c w i key).1 i) h = 0 ∧ wrEnd c (wrEnd c w i key).1 i key = wrEnd c w i key) ∧ ((wrEnd c w i key).2 ≠ 0 → fltR (sWd c (wrEnd c w i key).1 i) h ≠ 0) := by
  by_cases hcl : wrClash c w i key = true
  · have e1 : wrEnd c w i key = (putS c w i (mvI (sWd c w i) 5 false), 8) := by unfold wrEnd; rw [if_pos hcl]
    rw [e1]
    refine ⟨fun x => absurd (show (8 : Int) = 0 from x) (by decide), fun _ => ?_⟩
    rw [sWd_put_same hr i0 i1 hl]
    exact flt_5 (mv_nu _ _ _)
  generalize hs : sWd c w i = s at *
  generalize hn : snWd c w i = n at *
  generalize hk : kWd c w key = kw at *
  have hsw : Wd s := by rw [← hs]; exact hw.sWd i
  have hkw : Wd kw := by rw [← hk]; exact hw.getW _
  have hL : ∀ x ∈ othL kw 0 i, 0 ≤ x ∧ x ≠ i := fun x hx => ⟨(oth_mem hx).1, (oth_mem hx).2.2.1⟩
  have hL11 : ∀ x ∈ othL kw 0 i, 0 ≤ x ∧ x ≤ 11 := fun x hx => ⟨(oth_mem hx).1, (oth_mem hx).2.1⟩
  generalize hw0 : setW w (cellIx c 8 key) (withI kw 1 i) = w0
  have hl0 : (w0.length : Int) = c.len := by rw [← hw0, setW_len]; exact hl
  have hww0 : WfW w0 := by rw [← hw0]; exact hw.setW _ (withI_rng hkw 1 i).1 (withI_rng hkw 1 i).2
  have ea : wrEnd c w i key = (putS c (acc c i 1 n w0 (othL kw 0 i)).1 i (mvI (wths 1 (acc c i 1 n w0 (othL kw 0 i)).2.1 s) (if (acc c i 1 n w0 (othL kw 0 i)).2.2 = true then 2 else 5) false), if (acc c i 1 n w0 (othL kw 0 i)).2.2 = true then 0 else 7) := by
    unfold wrEnd
    rw [if_neg hcl]
    unfold wrA
    rw [hn, hk, hs, hw0]
  have hla : ((acc c i 1 n w0 (othL kw 0 i)).1.length : Int) = c.len := by rw [acc_len]; exact hl0
  cases hb : (acc c i 1 n w0 (othL kw 0 i)).2.2 with
  | false =>
    rw [hb, if_neg (by decide), if_neg (by decide)] at ea
    rw [ea]
    refine ⟨fun x => absurd (show (7 : Int) = 0 from x) (by decide), fun _ => ?_⟩
    rw [sWd_put_same hr i0 i1 hla]
    exact flt_5 (mv_nu _ _ _)
  | true =>
    rw [hb, if_pos rfl, if_pos rfl] at ea
    rw [ea]
    refine ⟨fun _ => ?_, fun x => absurd rfl x⟩
    obtain ⟨a1, a2, a3, a4⟩ := acc_all hr i0 i2 (sd := 1) (by omega) (othL kw 0 i) w0 (fun x hx => (hL x hx).1) hl0 hww0 hb
    generalize hA : (acc c i 1 n w0 (othL kw 0 i)).2.1 = A at *
    obtain ⟨f1, f2, f3⟩ := flt_ok hf
    have hAs : ∀ x ∈ A, x ∈ othL kw 0 i := fun x hx => acc_sub _ _ x (by rw [hA]; exact hx)
    have es : mvI (wths 1 A s) 2 false = wths 1 A s := mv_self (by rw [wths_nu A hsw.1]; exact f2) (by rw [wths_busy]; exact f3)
    rw [es]
    have hss : sWd c (putS c (acc c i 1 n w0 (othL kw 0 i)).1 i (wths 1 A s)) i = wths 1 A s := sWd_put_same hr i0 i1 hla _
    have hkk : kWd c (putS c (acc c i 1 n w0 (othL kw 0 i)).1 i (wths 1 A s)) key = withI kw 1 i := by
      rw [kWd_put hr i0 i1 k0 k1]
      show getW (acc c i 1 n w0 (othL kw 0 i)).1 _ = _
      rw [acc_ne _ _ fun x hx => ix48_ne hr (hL x hx).1 k0 k1, ← hw0]
      have := ix_key_rng hr k0 k1
      exact getW_set_same this.1 (by rw [hl]; exact this.2)
    have hnn : snWd c (putS c (acc c i 1 n w0 (othL kw 0 i)).1 i (wths 1 A s)) i = n := by
      rw [snWd_put hr i0 i1]
      show getW (acc c i 1 n w0 (othL kw 0 i)).1 _ = _
      rw [acc_ne _ _ fun x hx => ix45_ne hr i0 i1 (hL x hx).1, ← hw0, ← hn]
      exact getW_set_ne (ix_nek hr (.inr (.inl rfl)) i0 i1 k0 k1).symm
    have hwk : setW (putS c (acc c i 1 n w0 (othL kw 0 i)).1 i (wths 1 A s)) (cellIx c 8 key) (withI (withI kw 1 i) 1 i) = putS c (acc c i 1 n w0 (othL kw 0 i)).1 i (wths 1 A s) := by
      rw [withI_has (hasI_with (by decide) (by decide) i0 i2)]
      exact setW_eq hkk
    have hoth : othL (withI kw 1 i) 0 i = othL kw 0 i := oth_with i0 i2 (by decide)
    have hriv : othL (withI kw 1 i) 1 i = othL kw 1 i := oth_own
    have hst := acc_stays (c := c) (i := i) (sd := 1) (n := n) (othL kw 0 i) (acc c i 1 n w0 (othL kw 0 i)).1 fun x hx hg => a4 x hx ((a2 x (hL x hx).1).symm.trans hg)
    have hfl : (othL kw 0 i).filter (fun x => !gnW c n (acc c i 1 n w0 (othL kw 0 i)).1 x) = A := by
      rw [a1]
      exact List.filter_congr fun x hx => by rw [a2 x (hL x hx).1]
    rw [hfl] at hst
    have hac : acc c i 1 n (putS c (acc c i 1 n w0 (othL kw 0 i)).1 i (wths 1 A s)) (othL kw 0 i) = (putS c (acc c i 1 n w0 (othL kw 0 i)).1 i (wths 1 A s), A, true) := by
      rw [acc_put hr i0 i1 _ _ _ hL, hst]
    have hw2 : wths 1 A (wths 1 A s) = wths 1 A s := wths_of_has A _ (wths_has (by omega) A s fun x hx => hL11 x (hAs x hx))
    have hgn : ∀ x ∈ othL kw 1 i, gnW c n (putS c (acc c i 1 n w0 (othL kw 0 i)).1 i (wths 1 A s)) x = gnW c n w x := fun x hx => by
      obtain ⟨x0, _, x1, _⟩ := oth_mem hx
      rw [gn_own hr i0 i1 x0 x1, a2 x x0, ← hw0, gn_key hr x0 k0 k1]
    have hcl2 : ¬ wrClash c (putS c (acc c i 1 n w0 (othL kw 0 i)).1 i (wths 1 A s)) i key = true := by
      unfold wrClash at hcl ⊢
      rw [hkk, hnn, hriv, any_gn _ hgn]
      rw [hn, hk] at hcl
      exact hcl
    refine ⟨?_, ?_⟩
    · show fltR (sWd c (putS c _ i _) i) h = 0
      rw [hss]
      exact flt_of (by rw [wths_gen A hsw.1]; exact f1) (by rw [wths_nu A hsw.1]; exact f2) (by rw [wths_busy]; exact f3)
    · show wrEnd c (putS c _ i _) i key = _
      unfold wrEnd
      rw [if_neg hcl2]
      unfold wrA
      rw [hss, hkk, hnn, hwk, hoth, hac]
      simp only [if_true, hw2, es, putS_put]
theorem wwant_twice {c : Cfg} (hr : c.Right) {w : List Int} (hl : (w.length : Int) = c.len) (hw : WfW w) (h key : Int) :
    (wrWant c (wrWant c w h key).1 h key).1 = (wrWant c w h key).1 ∧ ((wrWant c w h key).2 = 0 ↔ (wrWant c (wrWant c w h key).1 h key).2 = 0) := by
  have same : (wrWant c w h key).1 = w → (wrWant c (wrWant c w h key).1 h key).1 = (wrWant c w h key).1 ∧ ((wrWant c w h key).2 = 0 ↔ (wrWant c (wrWant c w h key).1 h key).2 = 0) := fun e => by
    rw [e]
    exact ⟨e, Iff.rfl⟩
  by_cases he : rdNewE c h key = 0
  · by_cases hf : fltR (sWd c w (tkS h)) h = 0
    · obtain ⟨k0, k1, ho⟩ := newE_ok he
      obtain ⟨i0, i1, i2⟩ := ofOk_rng ho
      have e1 : wrWant c w h key = wrEnd c w (tkS h) key := by unfold wrWant; rw [if_neg (fun x => x he), if_neg (fun x => x hf)]
      obtain ⟨t1, t2⟩ := wend_twice hr hl hw i0 i1 i2 k0 k1 hf
      rw [e1]
      by_cases hz : (wrEnd c w (tkS h) key).2 = 0
      · obtain ⟨t3, t4⟩ := t1 hz
        have e2 : wrWant c (wrEnd c w (tkS h) key).1 h key = wrEnd c w (tkS h) key := by
          unfold wrWant; rw [if_neg (fun x => x he), if_neg (fun x => x t3), t4]
        rw [e2]
        exact ⟨rfl, Iff.rfl⟩
      · have t3 := t2 hz
        have e2 : wrWant c (wrEnd c w (tkS h) key).1 h key = ((wrEnd c w (tkS h) key).1, fltR (sWd c (wrEnd c w (tkS h) key).1 (tkS h)) h) := by
          unfold wrWant; rw [if_neg (fun x => x he), if_pos t3]
        rw [e2]
        exact ⟨rfl, ⟨fun x => absurd x hz, fun x => absurd x t3⟩⟩
    · exact same (by unfold wrWant; rw [if_neg (fun x => x he), if_pos hf])
  · exact same (by unfold wrWant; rw [if_pos he])
end Go.Proofs.YtocfhiafegkfkaaGreat.Ct
