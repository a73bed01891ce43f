/- A read alone, from its making to its end; no program in sight. -/
import Derived.Test.YtmpidecpfcikoaaGreatCtReadR
import Derived.Test.YtmpidecpfcikoaaGreatCtConf2
namespace Go.Proofs.YtmpidecpfcikoaaGreat.Ct
open Go Go.Proofs Go.Proofs.YtmpidecpfcikoaaGreat.Ev
open Go.RowKit

def rdIt : Nat → Rd × Mm → Rd × Mm
  | 0, x => x
  | k + 1, x => rdIt k (rdSt x.1 x.2, rdMe x.1 x.2)
theorem rdIt_add : ∀ (a b : Nat) (x : Rd × Mm), rdIt (a + b) x = rdIt b (rdIt a x)
  | 0, b, x => by rw [Nat.zero_add]; rfl
  | a + 1, b, x => by
    rw [show a + 1 + b = (a + b) + 1 by omega]
    exact rdIt_add a b _
theorem rd_dn {o : Rd} (h : o.dn = true) (m : Mm) : rdSt o m = o ∧ rdMe o m = m := by
  have h7 : o.ph = 7 := beq_nat h
  unfold rdSt rdMe
  rw [h7]
  exact ⟨rfl, rfl⟩
theorem rdIt_dn {o : Rd} (h : o.dn = true) (m : Mm) : ∀ k, rdIt k (o, m) = (o, m)
  | 0 => rfl
  | k + 1 => by
    show rdIt k (rdSt o m, rdMe o m) = _
    rw [(rd_dn h m).1, (rd_dn h m).2]
    exact rdIt_dn h m k
theorem rdRun_it : ∀ (N i : Nat) (o : Rd) (m : Mm), (rdRun N i o m).2 = rdIt N (o, m)
  | 0, _, _, _ => rfl
  | N + 1, i, o, m => by
    unfold rdRun
    by_cases h : o.dn = true
    · rw [if_pos h, rdIt_dn h]
    · rw [if_neg h, rdRun_it N (i + 1)]
      rfl
/-- Some steps, not more than a number, come to something. -/
def RdTo (b : Nat) (x y : Rd × Mm) : Prop := ∃ k, k ≤ b ∧ rdIt k x = y
theorem RdTo.trans {a b : Nat} {x y z : Rd × Mm} (h : RdTo a x y) (h' : RdTo b y z) : RdTo (a + b) x z := by
  obtain ⟨k, hk, e⟩ := h
  obtain ⟨k', hk', e'⟩ := h'
  exact ⟨k + k', by omega, by rw [rdIt_add, e, e']⟩
theorem RdTo.mono {a b : Nat} {x y : Rd × Mm} (h : RdTo a x y) (hab : a ≤ b) : RdTo b x y := by
  obtain ⟨k, hk, e⟩ := h
  exact ⟨k, by omega, e⟩
theorem RdTo.one {r : Rd} {m : Mm} : RdTo 1 (r, m) (rdSt r m, rdMe r m) := ⟨1, Nat.le_refl _, rfl⟩
theorem RdTo.run {b N : Nat} {o o' : Rd} {m m' : Mm} (h : RdTo b (o, m) (o', m')) (hb : b ≤ N) (hd : o'.dn = true) (i : Nat) : (rdRun N i o m).2 = (o', m') := by
  obtain ⟨k, hk, e⟩ := h
  rw [rdRun_it, show N = k + (N - k) by omega, rdIt_add, e, rdIt_dn hd]
theorem rd_JE : ∀ (k : Nat) (r : Rd) (m : Mm) (j' : Jn) (m' : Mm), r.ph = 4 → JE k r.j m j' m' → RdTo k (r, m) (rdJoined r j', m')
  | 0, _, _, _, _, _, h => h.elim
  | k + 1, r, m, j', m', h4, h => by
    have e1 : rdSt r m = rdJoined r (jSt r.j m) := by unfold rdSt; rw [h4]; rfl
    have e2 : rdMe r m = jMe r.j m := by unfold rdMe; rw [h4]; rfl
    rcases h with ⟨h1, h2, _⟩ | ⟨h1, h2⟩
    · refine RdTo.mono ⟨1, Nat.le_refl _, ?_⟩ (by omega)
      show (rdSt r m, rdMe r m) = _
      rw [e1, e2, h1, h2]
    · have e3 : rdJoined r (jSt r.j m) = ⟨r.ph, r.q, r.key, r.slot, r.n, r.w, r.oth, r.no, r.told, r.at', r.en, jSt r.j m, r.o, r.lv, r.l⟩ := by
        unfold rdJoined
        rw [h1]
        rfl
      have ih := rd_JE k ⟨r.ph, r.q, r.key, r.slot, r.n, r.w, r.oth, r.no, r.told, r.at', r.en, jSt r.j m, r.o, r.lv, r.l⟩ (jMe r.j m) j' m' h4 h2
      obtain ⟨k', hk, e⟩ := ih
      refine ⟨k' + 1, by omega, ?_⟩
      show rdIt k' (rdSt r m, rdMe r m) = _
      rw [e1, e2, e3, e]
      rfl
theorem rd_OE : ∀ (k : Nat) (r : Rd) (m : Mm) (o' : On) (m' : Mm), r.ph = 5 → OE k r.o m o' m' → RdTo k (r, m) (rdOwned r o', m')
  | 0, _, _, _, _, _, h => h.elim
  | k + 1, r, m, o', m', h5, h => by
    have e1 : rdSt r m = rdOwned r (oSt r.o m) := by unfold rdSt; rw [h5]; rfl
    have e2 : rdMe r m = oMe r.o m := by unfold rdMe; rw [h5]; rfl
    rcases h with ⟨h1, h2, _⟩ | ⟨h1, h2⟩
    · refine RdTo.mono ⟨1, Nat.le_refl _, ?_⟩ (by omega)
      show (rdSt r m, rdMe r m) = _
      rw [e1, e2, h1, h2]
    · have e3 : rdOwned r (oSt r.o m) = ⟨r.ph, r.q, r.key, r.slot, r.n, r.w, r.oth, r.no, r.told, r.at', r.en, r.j, oSt r.o m, r.lv, r.l⟩ := by
        unfold rdOwned
        rw [h1]
        rfl
      have ih := rd_OE k ⟨r.ph, r.q, r.key, r.slot, r.n, r.w, r.oth, r.no, r.told, r.at', r.en, r.j, oSt r.o m, r.lv, r.l⟩ (oMe r.o m) o' m' h5 h2
      obtain ⟨k', hk, e⟩ := ih
      refine ⟨k' + 1, by omega, ?_⟩
      show rdIt k' (rdSt r m, rdMe r m) = _
      rw [e1, e2, e3, e]
      rfl
theorem rd_LE : ∀ (k : Nat) (r : Rd) (m : Mm) (o' : Lv) (m' : Mm), r.ph = 6 → LE k r.lv m o' m' → RdTo k (r, m) (rdLeft r o', m')
  | 0, _, _, _, _, _, h => h.elim
  | k + 1, r, m, o', m', h6, h => by
    have e1 : rdSt r m = rdLeft r (lSt r.lv m) := by unfold rdSt; rw [h6]; rfl
    have e2 : rdMe r m = lMe r.lv m := by unfold rdMe; rw [h6]; rfl
    rcases h with ⟨h1, h2, _⟩ | ⟨h1, h2⟩
    · refine RdTo.mono ⟨1, Nat.le_refl _, ?_⟩ (by omega)
      show (rdSt r m, rdMe r m) = _
      rw [e1, e2, h1, h2]
    · have e3 : rdLeft r (lSt r.lv m) = ⟨r.ph, r.q, r.key, r.slot, r.n, r.w, r.oth, r.no, r.told, r.at', r.en, r.j, r.o, lSt r.lv m, r.l⟩ := by
        unfold rdLeft
        rw [h1]
        rfl
      have ih := rd_LE k ⟨r.ph, r.q, r.key, r.slot, r.n, r.w, r.oth, r.no, r.told, r.at', r.en, r.j, r.o, lSt r.lv m, r.l⟩ (lMe r.lv m) o' m' h6 h2
      obtain ⟨k', hk, e⟩ := ih
      refine ⟨k' + 1, by omega, ?_⟩
      show rdIt k' (rdSt r m, rdMe r m) = _
      rw [e1, e2, e3, e]
      rfl
/-- Where a read leaves. -/
structure RdL (r : Rd) (c : Cfg) (m : Mm) (i st e : Int) : Prop where
  ph : r.ph = 6
  slot : r.slot = i
  lv : r.lv = ⟨i, 0, st, false, false⟩
  told : r.told = e
  c : m.c = c
  ok : m.ok
/-- Where it is at another one. -/
structure RdJ (r : Rd) (i n : Int) (L : List Int) (a : Nat) : Prop where
  ph : r.ph = 4
  slot : r.slot = i
  nn : r.n = n
  ll : r.l = L
  at' : r.at' = (a : Int)
  lt : a < L.length
  len : L.length ≤ 12
  j : r.j = ⟨L.getD a 0, 1, i, 0, lookF, n, 0⟩
  oth : r.oth = L.getD a 0
theorem RdJ.goes {r : Rd} {i n : Int} {L : List Int} {a : Nat} (hp : r.slot = i) (hn : r.n = n) (hl : r.l = L) (ha : r.at' = (a : Int)) (hlen : L.length ≤ 12) (hlt : a < L.length) :
    (a + 1 = L.length ∧ r.goes = r.ends (-1) 0) ∨ (a + 1 < L.length ∧ RdJ r.goes i n L (a + 1)) := by
  have eA : w64 (r.at' + 1) = ((a + 1 : Nat) : Int) := by rw [ha]; exact w64_succ a (by omega)
  unfold Rd.goes
  rw [eA, hl]
  by_cases h : a + 1 = L.length
  · exact .inl ⟨h, by rw [if_pos (decide_eq_true (by omega))]⟩
  · refine .inr ⟨by omega, ?_⟩
    rw [if_neg (by rw [decide_eq_false (by omega)]; decide)]
    exact ⟨rfl, hp, hn, rfl, rfl, by omega, hlen, by show rdJoin _ 1 r.slot r.n = _; rw [hp, hn]; rfl, rfl⟩
theorem drop_cons {L : List Int} {a : Nat} (h : a < L.length) : L.drop a = L.getD a 0 :: L.drop (a + 1) := by
  rw [List.drop_eq_getElem_cons h, List.getD_eq_getElem?_getD, List.getElem?_eq_getElem h]
  rfl
theorem w64_10 : w64 (1 - 0) = 1 := rfl
/-- From one of the others on to the leaving. -/
theorem rd_list {c : Cfg} (hr : c.Right) {i n : Int} {L : List Int} (hi0 : 0 ≤ i) (hi1 : i < c.s) (hL : ∀ x ∈ L, 0 ≤ x) : ∀ (d a : Nat) (r : Rd) (m : Mm), L.length - a = d → RdJ r i n L a → m.c = c → m.ok →
    ∃ r' m' st e, RdTo (5 * d) (r, m) (r', m') ∧ RdL r' c m' i st e ∧ ((cfs c i 0 n m.w (L.drop a) = (m'.w, true) ∧ st = -1 ∧ e = 0) ∨ (cfs c i 0 n m.w (L.drop a) = (m'.w, false) ∧ st = 5 ∧ e = 7))
  | 0, a, r, m, hd, hj, _, _ => by have := hj.lt; omega
  | d + 1, a, r, m, hd, hj, hc, hm => by
    have hx0 : 0 ≤ L.getD a 0 := hL _ (by rw [List.getD_eq_getElem?_getD, List.getElem?_eq_getElem hj.lt]; exact List.getElem_mem hj.lt)
    obtain ⟨j', m1, hJ, hc1, hm1, hout⟩ := join_alone (c := c) (m := m) (x := L.getD a 0) (sd := 1) (by' := i) (n := n) hr hm hc hx0
    have t1 := rd_JE 3 r m j' m1 hj.ph (by rw [hj.j]; exact hJ)
    rw [drop_cons hj.lt]
    have next : ∀ (r2 : Rd) (m2 : Mm) (b : Nat), r2.slot = i → r2.n = n → r2.l = L → r2.at' = (a : Int) → m2.c = c → m2.ok → b ≤ 5 → RdTo b (r, m) (r2.goes, m2) →
        ∃ r' m' st e, RdTo (5 * (d + 1)) (r, m) (r', m') ∧ RdL r' c m' i st e ∧ ((cfs c i 0 n m2.w (L.drop (a + 1)) = (m'.w, true) ∧ st = -1 ∧ e = 0) ∨ (cfs c i 0 n m2.w (L.drop (a + 1)) = (m'.w, false) ∧ st = 5 ∧ e = 7)) := fun r2 m2 b h1 h2 h3 h4 h5 h6 hb ht => by
      rcases RdJ.goes h1 h2 h3 h4 hj.len hj.lt with ⟨e1, e2⟩ | ⟨e1, e2⟩
      · rw [e2] at ht
        refine ⟨_, _, -1, 0, ht.mono (by omega), ⟨rfl, h1, by show (⟨r2.slot, 0, -1, false, false⟩ : Lv) = _; rw [h1], rfl, h5, h6⟩, .inl ⟨?_, rfl, rfl⟩⟩
        rw [e1, List.drop_length]
        rfl
      · obtain ⟨r', m', st, e, q1, q2, q3⟩ := rd_list hr hi0 hi1 hL d (a + 1) r2.goes m2 (by omega) e2 h5 h6
        exact ⟨r', m', st, e, (ht.trans q1).mono (by omega), q2, q3⟩
    rcases hout with ⟨hg, h1, hw⟩ | ⟨hg, hb, h3, hw⟩ | ⟨hg, hb, h2, hw⟩
    · have e1 : rdJoined r j' = Rd.goes ⟨r.ph, r.q, r.key, r.slot, r.n, r.w, r.oth, r.no, r.told, r.at', r.en, j', r.o, r.lv, r.l⟩ := by
        unfold rdJoined; rw [h1]; rfl
      rw [e1] at t1
      obtain ⟨r', m', st, e, q1, q2, q3⟩ := next ⟨r.ph, r.q, r.key, r.slot, r.n, r.w, r.oth, r.no, r.told, r.at', r.en, j', r.o, r.lv, r.l⟩ m1 3 hj.slot hj.nn hj.ll hj.at' hc1 hm1 (by omega) t1
      refine ⟨r', m', st, e, q1, q2, ?_⟩
      rw [hw] at q3
      unfold cfs
      rw [if_pos hg]
      exact q3
    · have e1 : rdJoined r j' = Rd.ends ⟨r.ph, r.q, r.key, r.slot, r.n, r.w, r.oth, r.no, r.told, r.at', r.en, j', r.o, r.lv, r.l⟩ 5 7 := by
        unfold rdJoined; rw [h3]; rfl
      rw [e1] at t1
      refine ⟨_, _, 5, 7, t1.mono (by omega), ⟨rfl, hj.slot, by show (⟨r.slot, 0, 5, false, false⟩ : Lv) = _; rw [hj.slot], rfl, hc1, hm1⟩, .inr ⟨?_, rfl, rfl⟩⟩
      unfold cfs
      rw [if_neg (by rw [hg]; decide), if_pos (by rw [show (1 : Int) - 0 = 1 from rfl]; exact hb), hw]
    · have e1 : rdJoined r j' = ⟨5, 4, r.key, r.slot, r.n, r.w, r.oth, r.no, r.told, r.at', r.en, j', ⟨r.slot, 0, r.oth, 0, false, false⟩, r.lv, r.l⟩ := by
        unfold rdJoined; rw [h2]; rfl
      rw [e1] at t1
      obtain ⟨o', m2, hO, hc2, hm2, hw2⟩ := own_alone (c := c) (m := m1) (i := i) (sd := 0) (x := L.getD a 0) hr hm1 hc1 hi0 hi1
      have t2 := rd_OE 2 ⟨5, 4, r.key, r.slot, r.n, r.w, r.oth, r.no, r.told, r.at', r.en, j', ⟨r.slot, 0, r.oth, 0, false, false⟩, r.lv, r.l⟩ m1 o' m2 rfl (by show OE 2 ⟨r.slot, 0, r.oth, 0, false, false⟩ m1 o' m2; rw [hj.slot, hj.oth]; exact hO)
      have hdn : o'.dn = true := by
        have key : ∀ (k : Nat) (o : On) (m : Mm), OE k o m o' m2 → o'.dn = true := fun k => by
          induction k with
          | zero => intro o m h; exact h.elim
          | succ k ih =>
            intro o m h
            rcases h with ⟨_, _, h⟩ | ⟨_, h⟩
            · exact h
            · exact ih _ _ h
        exact key _ _ _ hO
      have e2 : rdOwned ⟨5, 4, r.key, r.slot, r.n, r.w, r.oth, r.no, r.told, r.at', r.en, j', ⟨r.slot, 0, r.oth, 0, false, false⟩, r.lv, r.l⟩ o' = Rd.goes ⟨5, 4, r.key, r.slot, r.n, r.w, r.oth, r.no, r.told, r.at', r.en, j', o', r.lv, r.l⟩ := by
        unfold rdOwned; rw [if_pos hdn]
      rw [e2] at t2
      obtain ⟨r', m', st, e, q1, q2, q3⟩ := next ⟨5, 4, r.key, r.slot, r.n, r.w, r.oth, r.no, r.told, r.at', r.en, j', o', r.lv, r.l⟩ m2 5 hj.slot hj.nn hj.ll hj.at' hc2 hm2 (by omega) (t1.trans t2)
      refine ⟨r', m', st, e, q1, q2, ?_⟩
      have ew : m2.w = cfTwo c m.w i 0 (L.getD a 0) := by
        rw [hw2, hw]
        rfl
      rw [ew] at q3
      unfold cfs
      rw [if_neg (by rw [hg]; decide), if_neg (by rw [show (1 : Int) - 0 = 1 from rfl, hb]; decide)]
      exact q3
end Go.Proofs.YtmpidecpfcikoaaGreat.Ct
namespace Go.Proofs.YtmpidecpfcikoaaGreat.Ct
open Go Go.Proofs Go.Proofs.YtmpidecpfcikoaaGreat.Ev
open Go.RowKit

/-- What is amiss with an entering of the one state 2. -/
def fltR (s h : Int) : Int := fltI s h [2]
theorem flt_ok {s h : Int} (hf : fltR s h = 0) : nuI s 30 32 = tkG h ∧ nuI s 27 3 = 2 ∧ bitI s 26 = false := by
  unfold fltR fltI at hf
  split at hf
  · omega
  · rename_i h1
    split at hf
    · omega
    · split at hf
      · omega
      · split at hf
        · omega
        · rename_i h4
          split at hf
          · rename_i h5
            refine ⟨by simpa using h1, ?_, eq_false_of_ne_true h4⟩
            simpa [inB] using h5
          · omega
theorem flt_of {s h : Int} (h1 : nuI s 30 32 = tkG h) (h2 : nuI s 27 3 = 2) (h3 : bitI s 26 = false) : fltR s h = 0 := by
  unfold fltR fltI
  rw [h1, h2, h3, if_neg (by simp), if_neg (by decide), if_neg (by decide), if_neg (by decide), if_pos (by decide)]
theorem flt_rng (s h : Int) : fltR s h = 0 ∨ fltR s h = 2 ∨ fltR s h = 3 ∨ fltR s h = 4 := by
  unfold fltR fltI
  split
  · omega
  · split
    · omega
    · split
      · omega
      · split
        · omega
        · split <;> omega
theorem ofOk_rng {h s : Int} (ho : ofOk h s = true) : 0 ≤ tkS h ∧ tkS h < s ∧ tkS h ≤ 11 := by
  unfold ofOk at ho
  simp only [Bool.and_eq_true, decide_eq_true_eq] at ho
  obtain ⟨⟨h1, h2⟩, _⟩ := ho
  have h3 := tkOk_iff.1 h1
  unfold tkS at h2 ⊢
  rw [if_pos h1] at h2 ⊢
  omega
theorem newE_ok {c : Cfg} {h key : Int} (he : rdNewE c h key = 0) : 0 ≤ key ∧ key < c.k ∧ ofOk h c.s = true := by
  unfold rdNewE at he
  split at he
  · omega
  · split at he
    · omega
    · split at he
      · rename_i h3
        exact ⟨by omega, by omega, h3⟩
      · omega
theorem oth_mem {w k s x : Int} (h : x ∈ othL w k s) : 0 ≤ x ∧ x ≤ 11 ∧ x ≠ s ∧ hasI w k x = true := by
  unfold othL butL upK at h
  rw [List.mem_filter, List.mem_filter, List.mem_map] at h
  obtain ⟨⟨⟨y, hy, rfl⟩, h2⟩, h3⟩ := h
  rw [List.mem_range] at hy
  have h3 := of_decide_eq_true h3
  exact ⟨Int.natCast_nonneg y, by show (y : Int) ≤ 11; omega, h3, h2⟩
/-- What is told, and what is left: its words. -/
def rdEnd (c : Cfg) (w : List Int) (i key : Int) : List Int × Int :=
  ((putS c (acc c i 0 (snWd c w i) (setW w (cellIx c 8 key) (withI (kWd c w key) 0 i)) (othL (kWd c w key) 1 i)).1 i
    (mvI (wths 0 (acc c i 0 (snWd c w i) (setW w (cellIx c 8 key) (withI (kWd c w key) 0 i)) (othL (kWd c w key) 1 i)).2.1 (sWd c w i)) (if (acc c i 0 (snWd c w i) (setW w (cellIx c 8 key) (withI (kWd c w key) 0 i)) (othL (kWd c w key) 1 i)).2.2 = true then 2 else 5) false)),
    if (acc c i 0 (snWd c w i) (setW w (cellIx c 8 key) (withI (kWd c w key) 0 i)) (othL (kWd c w key) 1 i)).2.2 = true then 0 else 7)
def rdWant (c : Cfg) (w : List Int) (h key : Int) : List Int × Int :=
  if rdNewE c h key ≠ 0 then (w, rdNewE c h key)
  else if fltR (sWd c w (tkS h)) h ≠ 0 then (w, fltR (sWd c w (tkS h)) h)
  else rdEnd c w (tkS h) key
theorem en_look {h : Int} {m : Mm} (ho : ofOk h m.c.s = true) : enSt (Et.w2 ⟨tkS h, 0, h, false, false, 0, 0⟩) m = ⟨tkS h, sWd m.c m.w (tkS h), h, row2, fltR (sWd m.c m.w (tkS h)) h == 0, fltR (sWd m.c m.w (tkS h)) h != 0, fltR (sWd m.c m.w (tkS h)) h, 0⟩ ∧ enMe (Et.w2 ⟨tkS h, 0, h, false, false, 0, 0⟩) m = mLd m 4 (tkS h) := by
  unfold enSt enMe Et.w2
  simp only [ho, if_true, Bool.false_eq_true, if_false]
  exact ⟨rfl, trivial⟩
theorem en_swap {h s : Int} {m : Mm} (ho : ofOk h m.c.s = true) (hd : dnS m 4 (tkS h) s = true) : enSt (Et.w2 ⟨tkS h, s, h, true, false, 0, 0⟩) m = ⟨tkS h, s, h, row2, false, true, 0, mvI s (nuI s 27 3) true⟩ ∧ enMe (Et.w2 ⟨tkS h, s, h, true, false, 0, 0⟩) m = mSw m 4 (tkS h) s (mvI s (nuI s 27 3) true) := by
  unfold enSt enMe Et.w2
  simp only [ho, hd, if_true, Bool.false_eq_true, if_false]
  exact ⟨trivial, trivial⟩
theorem rd_alone {c : Cfg} (hr : c.Right) {m : Mm} (hc : m.c = c) (hm : m.ok) (h key : Int) :
    ∃ r' m', RdTo 70 (rdOf c h key, m) (r', m') ∧ r'.dn = true ∧ m'.c = c ∧ m'.ok ∧ r'.no = (rdWant c m.w h key).2 ∧ m'.w = (rdWant c m.w h key).1 := by
  unfold rdWant
  by_cases he : rdNewE c h key = 0
  · rw [if_neg (fun x => x he)]
    obtain ⟨k0, k1, ho⟩ := newE_ok he
    obtain ⟨i0, i1, i2⟩ := ofOk_rng ho
    have ho' : ofOk h m.c.s = true := by rw [hc]; exact ho
    have e0 : rdOf c h key = ⟨0, 1, key, tkS h, 0, 0, 0, 0, 0, 0, ⟨tkS h, 0, h, false, false, 0, 0⟩, ⟨0, 0, 0, 0, lookF, 0, 0⟩, ⟨0, 0, 0, 0, false, false⟩, ⟨0, 0, 0, false, false⟩, []⟩ := by
      unfold rdOf rdNew
      rw [he, ho]
      rfl
    rw [e0]
    generalize hi : tkS h = i at *
    generalize hs : sWd c m.w i = s at *
    have hl4 := ix_i hr i0 i1 (w := m.w) (by rw [hm.2, hc])
    have hl8 := ix_key_rng hr k0 k1
    have hlen : (m.w.length : Int) = c.len := by rw [hm.2, hc]
    -- the first step: it looks
    obtain ⟨q1, q2⟩ := en_look (h := h) (m := m) ho'
    rw [hi, show sWd m.c m.w i = s by rw [hc]; exact hs] at q1
    rw [hi] at q2
    have t1 : RdTo 1 (⟨0, 1, key, i, 0, 0, 0, 0, 0, 0, ⟨i, 0, h, false, false, 0, 0⟩, ⟨0, 0, 0, 0, lookF, 0, 0⟩, ⟨0, 0, 0, 0, false, false⟩, ⟨0, 0, 0, false, false⟩, []⟩, m)
        (rdEnter ⟨0, 1, key, i, 0, 0, 0, 0, 0, 0, ⟨i, 0, h, false, false, 0, 0⟩, ⟨0, 0, 0, 0, lookF, 0, 0⟩, ⟨0, 0, 0, 0, false, false⟩, ⟨0, 0, 0, false, false⟩, []⟩ ⟨i, s, h, row2, fltR s h == 0, fltR s h != 0, fltR s h, 0⟩ (mLd m 4 i), mLd m 4 i) := by
      refine ⟨1, Nat.le_refl _, ?_⟩
      rw [← q1, ← q2]
      rfl
    have hok1 : (mLd m 4 i).ok := acc_ok hm rfl
    have ho1 : ofOk h (mLd m 4 i).c.s = true := ho'
    by_cases hf : fltR s h = 0
    · rw [if_neg (fun x => x hf)]
      obtain ⟨f1, f2, f3⟩ := flt_ok hf
      rw [hf] at t1
      have e1 : rdEnter ⟨0, 1, key, i, 0, 0, 0, 0, 0, 0, ⟨i, 0, h, false, false, 0, 0⟩, ⟨0, 0, 0, 0, lookF, 0, 0⟩, ⟨0, 0, 0, 0, false, false⟩, ⟨0, 0, 0, false, false⟩, []⟩ ⟨i, s, h, row2, (0 : Int) == 0, (0 : Int) != 0, 0, 0⟩ (mLd m 4 i) = ⟨0, 1, key, i, 0, 0, 0, 0, 0, 0, ⟨i, s, h, true, false, 0, 0⟩, ⟨0, 0, 0, 0, lookF, 0, 0⟩, ⟨0, 0, 0, 0, false, false⟩, ⟨0, 0, 0, false, false⟩, []⟩ := by
        unfold rdEnter
        simp only [ho1]
        rfl
      rw [e1] at t1
      -- the second: it takes
      have hd : dnS (mLd m 4 i) 4 i s = true := dnS_hit (by show 0 ≤ cellIx m.c 4 i; rw [hc]; exact hl4.1) (by show getW m.w (cellIx m.c 4 i) = s; rw [hc]; exact hs)
      obtain ⟨q3, q4⟩ := en_swap (h := h) (s := s) (m := mLd m 4 i) ho1 (by rw [hi]; exact hd)
      rw [hi, f2] at q3 q4
      have hok2 : (mSw (mLd m 4 i) 4 i s (mvI s 2 true)).ok := acc_ok hok1 (swpW_len _ _ _ _)
      have ho2 : ofOk h (mSw (mLd m 4 i) 4 i s (mvI s 2 true)).c.s = true := ho'
      have t2 : RdTo 1 (⟨0, 1, key, i, 0, 0, 0, 0, 0, 0, ⟨i, s, h, true, false, 0, 0⟩, ⟨0, 0, 0, 0, lookF, 0, 0⟩, ⟨0, 0, 0, 0, false, false⟩, ⟨0, 0, 0, false, false⟩, []⟩, mLd m 4 i)
          (⟨1, 1, key, i, 0, 0, 0, 0, 0, 0, ⟨i, s, h, false, true, 0, mvI s 2 true⟩, ⟨0, 0, 0, 0, lookF, 0, 0⟩, ⟨0, 0, 0, 0, false, false⟩, ⟨0, 0, 0, false, false⟩, []⟩, mSw (mLd m 4 i) 4 i s (mvI s 2 true)) := by
        refine ⟨1, Nat.le_refl _, ?_⟩
        show (rdEnter _ (enSt (Et.w2 ⟨i, s, h, true, false, 0, 0⟩) (mLd m 4 i)) (enMe (Et.w2 ⟨i, s, h, true, false, 0, 0⟩) (mLd m 4 i)), enMe (Et.w2 ⟨i, s, h, true, false, 0, 0⟩) (mLd m 4 i)) = _
        rw [q3, q4]
        unfold rdEnter errI
        simp only [ho2]
        rfl
      obtain ⟨m2, hm2⟩ : ∃ m2, mSw (mLd m 4 i) 4 i s (mvI s 2 true) = m2 := ⟨_, rfl⟩
      have hc2 : m2.c = c := by rw [← hm2]; exact hc
      have hw2 : m2.w = putS c m.w i (mvI s 2 true) := by
        rw [← hm2]
        show swpW m.w (cellIx m.c 4 i) s _ = _
        rw [hc]
        exact swpW_hit hs
      rw [hm2] at t2 hok2
      -- the third: its snapshot
      have hsn : getW m2.w (cellIx m2.c 5 i) = snWd c m.w i := by
        rw [hc2, hw2]
        exact getW_set_ne (ix_ne hr (.inl rfl) (.inr (.inl rfl)) i0 i1 i0 i1 (.inl (by decide)))
      have hky : getW m2.w (cellIx m2.c 8 key) = kWd c m.w key := by
        rw [hc2, hw2]
        exact getW_set_ne (ix_nek hr (.inl rfl) i0 i1 k0 k1)
      generalize hn : snWd c m.w i = n at *
      generalize hk : kWd c m.w key = kw at *
      have t3 : RdTo 2 (⟨1, 1, key, i, 0, 0, 0, 0, 0, 0, ⟨i, s, h, false, true, 0, mvI s 2 true⟩, ⟨0, 0, 0, 0, lookF, 0, 0⟩, ⟨0, 0, 0, 0, false, false⟩, ⟨0, 0, 0, false, false⟩, []⟩, m2)
          (if hasI kw 0 i = true then Rd.found ⟨2, 1, key, i, n, kw, 0, 0, 0, 0, ⟨i, s, h, false, true, 0, mvI s 2 true⟩, ⟨0, 0, 0, 0, lookF, 0, 0⟩, ⟨0, 0, 0, 0, false, false⟩, ⟨0, 0, 0, false, false⟩, []⟩ else ⟨3, 1, key, i, n, kw, 0, 0, 0, 0, ⟨i, s, h, false, true, 0, mvI s 2 true⟩, ⟨0, 0, 0, 0, lookF, 0, 0⟩, ⟨0, 0, 0, 0, false, false⟩, ⟨0, 0, 0, false, false⟩, []⟩, mLd (mLd m2 5 i) 8 key) := by
        refine ⟨2, Nat.le_refl _, ?_⟩
        show (if hasI (getW m2.w (cellIx m2.c 8 key)) 0 i = true then Rd.found ⟨2, 1, key, i, getW m2.w (cellIx m2.c 5 i), getW m2.w (cellIx m2.c 8 key), 0, 0, 0, 0, ⟨i, s, h, false, true, 0, mvI s 2 true⟩, ⟨0, 0, 0, 0, lookF, 0, 0⟩, ⟨0, 0, 0, 0, false, false⟩, ⟨0, 0, 0, false, false⟩, []⟩ else ⟨3, 1, key, i, getW m2.w (cellIx m2.c 5 i), getW m2.w (cellIx m2.c 8 key), 0, 0, 0, 0, ⟨i, s, h, false, true, 0, mvI s 2 true⟩, ⟨0, 0, 0, 0, lookF, 0, 0⟩, ⟨0, 0, 0, 0, false, false⟩, ⟨0, 0, 0, false, false⟩, []⟩, mLd (mLd m2 5 i) 8 key) = _
        rw [hsn, hky]
      obtain ⟨m3, hm3⟩ : ∃ m3, mLd (mLd m2 5 i) 8 key = m3 := ⟨_, rfl⟩
      have hc3 : m3.c = c := by rw [← hm3]; exact hc2
      have hok3 : m3.ok := by rw [← hm3]; exact acc_ok (acc_ok hok2 rfl) rfl
      have hw3 : m3.w = putS c m.w i (mvI s 2 true) := by rw [← hm3]; exact hw2
      rw [hm3] at t3
      -- behind the mark
      have t4 : ∃ ph m4, ph ≤ 3 ∧ RdTo 3 (⟨1, 1, key, i, 0, 0, 0, 0, 0, 0, ⟨i, s, h, false, true, 0, mvI s 2 true⟩, ⟨0, 0, 0, 0, lookF, 0, 0⟩, ⟨0, 0, 0, 0, false, false⟩, ⟨0, 0, 0, false, false⟩, []⟩, m2) (Rd.found ⟨ph, 1, key, i, n, kw, 0, 0, 0, 0, ⟨i, s, h, false, true, 0, mvI s 2 true⟩, ⟨0, 0, 0, 0, lookF, 0, 0⟩, ⟨0, 0, 0, 0, false, false⟩, ⟨0, 0, 0, false, false⟩, []⟩, m4) ∧ m4.c = c ∧ m4.ok ∧ m4.w = putS c (setW m.w (cellIx c 8 key) (withI kw 0 i)) i (mvI s 2 true) := by
        have hne : cellIx c 4 i ≠ cellIx c 8 key := ix_nek hr (.inl rfl) i0 i1 k0 k1
        have hw : setW (putS c m.w i (mvI s 2 true)) (cellIx c 8 key) (withI kw 0 i) = putS c (setW m.w (cellIx c 8 key) (withI kw 0 i)) i (mvI s 2 true) := setW_comm _ hne _ _
        cases hh : hasI kw 0 i with
        | true =>
          rw [hh, if_pos rfl] at t3
          refine ⟨2, m3, by omega, t3.mono (by omega), hc3, hok3, ?_⟩
          rw [hw3, withI_has hh, setW_eq (show getW m.w (cellIx c 8 key) = kw from hk)]
        | false =>
          rw [hh, if_neg (by decide)] at t3
          have hd3 : dnS m3 8 key kw = true := dnS_hit (by rw [hc3]; exact hl8.1) (by
            rw [hc3, hw3]
            show getW (setW _ _ _) _ = _
            rw [getW_set_ne hne]
            exact hk)
          refine ⟨3, mSw m3 8 key kw (withI kw 0 i), by omega, t3.trans ⟨1, Nat.le_refl _, ?_⟩, hc3, acc_ok hok3 (swpW_len _ _ _ _), ?_⟩
          · show (if dnS m3 8 key kw = true then _ else _, mSw m3 8 key kw (withI kw 0 i)) = _
            rw [hd3, if_pos rfl]
          · show swpW m3.w (cellIx m3.c 8 key) kw _ = _
            rw [hc3, hw3, swpW_hit (by
              show getW (setW _ _ _) _ = _
              rw [getW_set_ne hne]
              exact hk), hw]
      obtain ⟨ph, m4, _, t4, hc4, hok4, hw4⟩ := t4
      -- the others
      have hL : ∀ x ∈ othL kw 1 i, 0 ≤ x ∧ x ≠ i := fun x hx => ⟨(oth_mem hx).1, (oth_mem hx).2.2.1⟩
      generalize hw0 : setW m.w (cellIx c 8 key) (withI kw 0 i) = w0 at *
      have hl0 : (w0.length : Int) = c.len := by rw [← hw0, setW_len]; exact hlen
      have hcf := cfs_acc hr (i := i) (sd := 0) (n := n) i0 i1 (othL kw 1 i) w0 (mvI s 2 true) hL hl0
      have t5 : ∃ r5 m5 st e, RdTo 60 (Rd.found ⟨ph, 1, key, i, n, kw, 0, 0, 0, 0, ⟨i, s, h, false, true, 0, mvI s 2 true⟩, ⟨0, 0, 0, 0, lookF, 0, 0⟩, ⟨0, 0, 0, 0, false, false⟩, ⟨0, 0, 0, false, false⟩, []⟩, m4) (r5, m5) ∧ RdL r5 c m5 i st e ∧ ((cfs c i 0 n m4.w (othL kw 1 i) = (m5.w, true) ∧ st = -1 ∧ e = 0) ∨ (cfs c i 0 n m4.w (othL kw 1 i) = (m5.w, false) ∧ st = 5 ∧ e = 7)) := by
        unfold Rd.found
        by_cases hnil : othL kw 1 i = []
        · rw [if_pos hnil]
          exact ⟨_, m4, -1, 0, ⟨0, by omega, rfl⟩, ⟨rfl, rfl, rfl, rfl, hc4, hok4⟩, .inl ⟨by rw [hnil]; rfl, rfl, rfl⟩⟩
        · rw [if_neg hnil]
          have hp := getD_nil hnil
          obtain ⟨r5, m5, st, e, a1, a2, a3⟩ := rd_list hr (i := i) (n := n) (L := othL kw 1 i) i0 i1 (fun x hx => (hL x hx).1) (othL kw 1 i).length 0 ⟨4, 3, key, i, n, kw, (othL kw 1 i).getD 0 0, 0, 0, 0, ⟨i, s, h, false, true, 0, mvI s 2 true⟩, rdJoin ((othL kw 1 i).getD 0 0) 1 i n, ⟨0, 0, 0, 0, false, false⟩, ⟨0, 0, 0, false, false⟩, othL kw 1 i⟩ m4 rfl
            ⟨rfl, rfl, rfl, rfl, rfl, hp, oth_len _ _ _, rfl, rfl⟩ hc4 hok4
          exact ⟨r5, m5, st, e, a1.mono (by have := oth_len kw 1 i; omega), a2, a3⟩
      obtain ⟨r5, m5, st, e, t5, hL5, h5⟩ := t5
      rw [hw4, hcf] at h5
      -- it leaves
      obtain ⟨v', m6, hLE, hc6, hok6, hw6⟩ := leave_alone (c := c) (m := m5) (i := i) (st := st) hr hL5.ok hL5.c i0 i1
      have t6 := rd_LE 2 r5 m5 v' m6 hL5.ph (by rw [hL5.lv]; exact hLE)
      have hdn : v'.dn = true := by
        have key : ∀ (k : Nat) (o : Lv) (m : Mm), LE k o m v' m6 → v'.dn = true := fun k => by
          induction k with
          | zero => intro o m h; exact h.elim
          | succ k ih =>
            intro o m h
            rcases h with ⟨_, _, h⟩ | ⟨_, h⟩
            · exact h
            · exact ih _ _ h
        exact key _ _ _ hLE
      have e6 : rdLeft r5 v' = ⟨7, r5.q, r5.key, r5.slot, r5.n, r5.w, r5.oth, r5.told, r5.told, r5.at', r5.en, r5.j, r5.o, v', r5.l⟩ := by
        unfold rdLeft; rw [if_pos hdn]
      rw [e6] at t6
      refine ⟨_, m6, ((((t1.trans t2).trans t4).trans t5).trans t6).mono (by omega), rfl, hc6, hok6, ?_, ?_⟩
      · show r5.told = _
        rw [hL5.told]
        unfold rdEnd
        rw [hn, hk, hw0]
        rcases h5 with ⟨h5, _, rfl⟩ | ⟨h5, _, rfl⟩
        · rw [Prod.mk.injEq] at h5
          simp only [h5.2, if_true]
        · rw [Prod.mk.injEq] at h5
          simp only [h5.2, Bool.false_eq_true, if_false]
      · rw [hw6]
        unfold rdEnd
        rw [hn, hk, hw0, hs]
        have hla : ((acc c i 0 n w0 (othL kw 1 i)).1.length : Int) = c.len := by rw [acc_len]; exact hl0
        have fin : ∀ b : Bool, (putS c (acc c i 0 n w0 (othL kw 1 i)).1 i (wths 0 (acc c i 0 n w0 (othL kw 1 i)).2.1 (mvI s 2 true)), (acc c i 0 n w0 (othL kw 1 i)).2.2) = (m5.w, b) → st = (if b = true then -1 else 5) → setW m5.w (cellIx c 4 i) (mvI (sWd c m5.w i) (lvS (sWd c m5.w i) st) false) = putS c (acc c i 0 n w0 (othL kw 1 i)).1 i (mvI (wths 0 (acc c i 0 n w0 (othL kw 1 i)).2.1 s) (if (acc c i 0 n w0 (othL kw 1 i)).2.2 = true then 2 else 5) false) := fun b hb hst => by
          rw [Prod.mk.injEq] at hb
          obtain ⟨b1, b2⟩ := hb
          rw [← b1, sWd_put_same hr i0 i1 hla, wths_mv]
          show putS c (putS c _ i _) i _ = _
          rw [putS_put, mv_mv, b2]
          have hnu : nuI (mvI (wths 0 (acc c i 0 n w0 (othL kw 1 i)).2.1 s) 2 true) 27 3 = 2 := mv_nu _ _ _
          congr 2
          unfold lvS
          rw [hnu, hst]
          cases b <;> rfl
        rcases h5 with ⟨h5, h6, _⟩ | ⟨h5, h6, _⟩
        · exact fin true h5 h6
        · exact fin false h5 h6
    · rw [if_pos hf]
      refine ⟨_, _, t1.mono (by omega), ?_, hc, hok1, ?_, rfl⟩
      · unfold rdEnter errI
        have : (fltR s h != 0) = true := bne_iff_ne.2 hf
        simp only [ho1, this, if_true, Bool.true_or]
        rfl
      · unfold rdEnter errI
        have : (fltR s h != 0) = true := bne_iff_ne.2 hf
        simp only [ho1, this, if_true, Bool.true_or]
  · rw [if_pos he]
    have e0 : rdOf c h key = ⟨7, 0, key, if ofOk h c.s = true then tkS h else 0, 0, 0, 0, rdNewE c h key, 0, 0, ⟨tkS h, 0, h, false, false, 0, 0⟩, ⟨0, 0, 0, 0, lookF, 0, 0⟩, ⟨0, 0, 0, 0, false, false⟩, ⟨0, 0, 0, false, false⟩, []⟩ := by
      unfold rdOf rdNew
      rw [if_neg he, if_neg he]
    rw [e0]
    exact ⟨_, m, ⟨0, by omega, rfl⟩, rfl, hc, hm, rfl, rfl⟩
theorem rd_run {c : Cfg} (hr : c.Right) {m : Mm} (hc : m.c = c) (hm : m.ok) (h key : Int) {N : Nat} (hN : 70 ≤ N) (k : Nat) :
    (rdRun N k (rdOf c h key) m).2.1.dn = true ∧ (rdRun N k (rdOf c h key) m).2.2.c = c ∧ (rdRun N k (rdOf c h key) m).2.2.ok ∧ (rdRun N k (rdOf c h key) m).2.1.no = (rdWant c m.w h key).2 ∧ (rdRun N k (rdOf c h key) m).2.2.w = (rdWant c m.w h key).1 := by
  obtain ⟨r', m', h1, h2, h3, h4, h5, h6⟩ := rd_alone hr hc hm h key
  have := h1.run hN h2 k
  rw [this]
  exact ⟨h2, h3, h4, h5, h6⟩
end Go.Proofs.YtmpidecpfcikoaaGreat.Ct
