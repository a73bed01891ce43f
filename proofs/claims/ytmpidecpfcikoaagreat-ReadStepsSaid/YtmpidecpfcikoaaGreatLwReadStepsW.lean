/- What 'ReadSteps' comes to, of any input: it returns true and changes nothing that was there. -/
import Derived.Test.YtmpidecpfcikoaaGreatCtJoin2
import Derived.Test.YtmpidecpfcikoaaGreatLwReadStepsV5
import Derived.Test.YtmpidecpfcikoaaGreatLwReadStepsV7
namespace Go.Proofs.YtmpidecpfcikoaaGreat.Ct
open Go Go.Proofs Go.Proofs.YtmpidecpfcikoaaGreat.Ev
open Go.RowKit

def docOf (j : Jn) : Jd := ⟨j.sl, j.sd, j.by', j.sn, if j.fn = lookF then 0 else if j.fn = numF then 1 else 2, j.s, j.r⟩
theorem go_doc (j : Jn) : Jd.go (docOf j) = docOf j.go := by
  unfold Jd.go Jn.go
  show (if jdg j.s j.sd j.by' = 0 then _ else _) = _
  by_cases e : jdg j.s j.sd j.by' = 0
  · rw [if_pos e, if_pos e]
    rfl
  · rw [if_neg e, if_neg e]
    rfl
theorem both {j : Jn} {m : Mm} (h : jGood j m) : dSt (docOf j) m.doc = docOf (jSt j m) ∧ dMe (docOf j) m.doc = (jMe j m).doc := by
  obtain ⟨sl, sd, by', s, fn, sn, r⟩ := j
  obtain ⟨_, _, _, hf⟩ := h
  simp only at hf
  by_cases hr : r ≠ 0
  · refine ⟨?_, ?_⟩
    · unfold dSt jSt
      rw [if_pos (show (docOf ⟨sl, sd, by', s, fn, sn, r⟩).r ≠ 0 from hr), if_pos (show r ≠ 0 from hr)]
    · unfold dMe jMe
      rw [if_pos (show (docOf ⟨sl, sd, by', s, fn, sn, r⟩).r ≠ 0 from hr), if_pos (show r ≠ 0 from hr)]
  obtain rfl : r = 0 := Classical.not_not.1 hr
  rcases hf with rfl | rfl | rfl
  · refine ⟨?_, rfl⟩
    have e1 : dSt (docOf ⟨sl, sd, by', s, lookF, sn, 0⟩) m.doc = (if nuI (getW m.w (cellIx m.c 4 sl)) 27 3 = 4 then docOf ⟨sl, sd, by', getW m.w (cellIx m.c 4 sl), numF, sn, 0⟩ else if nuI (getW m.w (cellIx m.c 4 sl)) 27 3 = 2 ∨ nuI (getW m.w (cellIx m.c 4 sl)) 27 3 = 3 then Jd.go (docOf ⟨sl, sd, by', getW m.w (cellIx m.c 4 sl), lookF, sn, 0⟩) else docOf ⟨sl, sd, by', getW m.w (cellIx m.c 4 sl), lookF, sn, 1⟩) := rfl
    have e2 : jSt ⟨sl, sd, by', s, lookF, sn, 0⟩ m = (if nuI (getW m.w (cellIx m.c 4 sl)) 27 3 = 4 then ⟨sl, sd, by', getW m.w (cellIx m.c 4 sl), numF, sn, 0⟩ else if nuI (getW m.w (cellIx m.c 4 sl)) 27 3 = 2 ∨ nuI (getW m.w (cellIx m.c 4 sl)) 27 3 = 3 then Jn.go ⟨sl, sd, by', getW m.w (cellIx m.c 4 sl), lookF, sn, 0⟩ else ⟨sl, sd, by', getW m.w (cellIx m.c 4 sl), lookF, sn, 1⟩) := rfl
    rw [e1, e2, go_doc]
    split
    · rfl
    · split
      · rfl
      · rfl
  · refine ⟨?_, rfl⟩
    have e1 : dSt (docOf ⟨sl, sd, by', s, numF, sn, 0⟩) m.doc = (if pastI (getW m.w (cellIx m.c 6 sl)) sn = true then docOf ⟨sl, sd, by', s, numF, sn, 1⟩ else Jd.go (docOf ⟨sl, sd, by', s, numF, sn, 0⟩)) := rfl
    have e2 : jSt ⟨sl, sd, by', s, numF, sn, 0⟩ m = (if pastI (getW m.w (cellIx m.c 6 sl)) sn = true then ⟨sl, sd, by', s, numF, sn, 1⟩ else Jn.go ⟨sl, sd, by', s, numF, sn, 0⟩) := rfl
    rw [e1, e2, go_doc]
    split
    · rfl
    · rfl
  · exact ⟨rfl, rfl⟩
theorem docGood {j : Jn} {m : Mm} (h : jGood j m) (hr : m.c.Right) : dGood (docOf j) m.doc := by
  refine ⟨h.1, hr, h.2.1, h.2.2.1, ?_⟩
  show (if j.fn = lookF then (0 : Int) else if j.fn = numF then 1 else 2) = 0 ∨ (if j.fn = lookF then (0 : Int) else if j.fn = numF then 1 else 2) = 1 ∨ (if j.fn = lookF then (0 : Int) else if j.fn = numF then 1 else 2) = 2
  split
  · exact .inl rfl
  · split
    · exact .inr (.inl rfl)
    · exact .inr (.inr rfl)
/-- What is kept of an environment where only the contracts are others. -/
theorem CodeC.env {E E' : Env} (h : E.P = E'.P) {m0 : Nat} {c : Code} {fr : Fr} {Fin : Ex → Fr → Prop} (hC : CodeC E' m0 c fr Fin) : CodeC E m0 c fr Fin := fun ρ a w Q hf hQ => by
  rw [h]
  exact hC ρ a w Q hf hQ
end Go.Proofs.YtmpidecpfcikoaaGreat.Ct
namespace Go.Proofs.YtmpidecpfcikoaaGreat.ReadStepsDone
open Go Go.Proofs Go.Proofs.YtmpidecpfcikoaaGreat.Ev Go.Proofs.YtmpidecpfcikoaaGreat.Ct
open Go.RowKit

theorem z2' {tl : List Nat} : ∀ k, k < 2 → (0 :: 1 :: tl : List Nat).getD k 0 = k := fun k hk => by
  match k, hk with
  | 0, _ => rfl
  | 1, _ => rfl
def dOf (r : Rd) (nx : Int) : Dr := ⟨r.key, r.slot, nx, r.n, r.w, r.en, docOf r.j, r.o, r.lv, r.told, r.no, r.dn⟩
def OtIs (r : Rd) (ot : Ot) : Prop :=
  (ot = .z r.l ∧ r.at' = 0 ∧ r.oth = r.l.getD 0 0 ∧ 0 < r.l.length) ∨ ∃ k n0 : Nat, ot = .s k (n0 + 1) r.l ∧ r.at' = (k : Int) + 1 ∧ r.oth = r.l.getD (k + 1) 0 ∧ r.l.length = k + 1 + (n0 + 1)
/-- How the document's machine stands to it. -/
inductive Rel (c : Cfg) (r : Rd) (d : Dr) (ot : Ot) : Prop where
  | dn (h : r.ph = 7) (hd : d.dn = true) (he : d.e = r.no)
  | en (h : r.ph = 0) (hd : d = dOf r 0) (ho : ot = .nil) (hn : r.en.dn = false) (hs : r.en.sl = tkS r.en.h) (hk : ofOk r.en.h c.s = true) (hx : r.en.tk = true → r.en.no = 0)
  | lo (h : r.ph = 1 ∨ r.ph = 2 ∨ r.ph = 3) (hd : d = dOf r (r.ph : Int)) (ho : ot = .nil)
  | jo (h : r.ph = 4 ∨ r.ph = 5) (hd : d = dOf r (r.ph : Int)) (ho : OtIs r ot)
  | lv (h : r.ph = 6) (hd : d = dOf r 6)
def Okm (c : Cfg) (m : Mm) : Prop := m.ok ∧ m.c = c ∧ WfW m.w
section
variable {c : Cfg} {l : List Int} {off : Nat} {pk : Pk} {h key st : Int} {m : Mm} {r : Rd} {i : Nat}
theorem hQ_ok (hr : c.Right) (hm : Okm c m) (hG : rdGood r (M1 pk i m)) (hpl : pk.len ≤ 1000) (hlt : (i : Int) < lim st) : ∀ p ∈ hQ pk st m r i, p :=
  List.forall_mem_cons.2 ⟨decide_eq_true hlt, pcs_app (pk.pc_ok hm.1 (by rw [hm.2.1]; exact hr) hpl) (pcs_of ⟨rdP_ok _ _, ⟨rfl, rfl, hG⟩, trivial⟩)⟩
theorem tQ_ok (hG : rdGood r (M1 pk i m)) {k : Nat} {q : Mm} {dn : Bool} {e : Int} (hq : q = (rdMe r (M1 pk i m)).doc) (hd : (rdSt r (M1 pk i m)).dn = dn) (he : (rdSt r (M1 pk i m)).no = e) : ∀ p ∈ tQ pk m r i k q dn e, p := by
  subst hq; subst hd; subst he
  exact pcs_of ⟨(rdMe_ok hG).1, ⟨rfl, rfl, rfl, rfl⟩, rdP_ok _ _, qAsk_ok (rdSt_good hG), bne_self_eq_false _, rdP_ok _ _, qAsk_ok (rdSt_good hG), bne_self_eq_false _, trivial⟩
theorem nx_le (ot : Ot) : 2 ≤ ot.nx := by cases ot <;> (show 2 ≤ _; simp [Ot.nx])
theorem fin_run {E : Env} (hE : EnvOk E) (hP : Er4o.P = E.P) {ns : List Nat} {ds : List Dec} {d d' : Dr} {ot ot' : Ot} {q : Mm} {pcs : List Prop} {Fin : Ex → Fr → Prop} (hrun : run E 12 (bd fn lp) ns live 2 [] (fr l off pk h key st m m r d ot (i : Int) ds) = some (.normal, fr l off pk h key st (rdMe r (M1 pk i m)) q (rdSt r (M1 pk i m)) d' ot' (w64 ((i : Int) + 1)) [], pcs)) (hp : ∀ p ∈ pcs, p) (hz : ∀ k, k < 2 → ns.getD k 0 = k) (hi : i ≤ 1000)
    (hq : q = (rdMe r (M1 pk i m)).doc) (hF : Fin .normal (fr l off pk h key st (rdMe r (M1 pk i m)) (rdMe r (M1 pk i m)) (rdSt r (M1 pk i m)) d' ot' ((i + 1 : Nat) : Int) [])) : CodeC Er4o 2 (bd fn lp) (fr l off pk h key st m m r d ot (i : Int) []) Fin := by
  subst hq
  rw [w64_succ i (by omega)] at hrun
  exact CodeC.env hP (CodeC.of_run (fr := fr l off pk h key st m m r d ot (i : Int) ds) hE hrun hp (nx_le ot) hz hF)
end
/-- A round ends in a frame that stands so again. -/
def Nxt (c : Cfg) (l : List Int) (off : Nat) (pk : Pk) (h key st : Int) (i : Nat) (r : Rd) (M : Mm) (Fin : Ex → Fr → Prop) : Prop := ∀ d' ot', Rel c (rdSt r M) d' ot' → Fin .normal (fr l off pk h key st (rdMe r M) (rdMe r M) (rdSt r M) d' ot' ((i + 1 : Nat) : Int) [])
theorem lv_doc {o : Lv} {m : Mm} : lSt o m.doc = lSt o m ∧ lMe o m.doc = (lMe o m).doc := by
  unfold lSt lMe
  refine ⟨rfl, ?_⟩
  split
  · rfl
  · split <;> rfl
theorem on_doc {o : On} {m : Mm} : oSt o m.doc = oSt o m ∧ oMe o m.doc = (oMe o m).doc := by
  unfold oSt oMe
  refine ⟨rfl, ?_⟩
  split
  · rfl
  · split <;> rfl
open Dec in
section
variable {c : Cfg} {l : List Int} {off : Nat} {pk : Pk} {h key st : Int} {m : Mm} {i : Nat} {Fin : Ex → Fr → Prop}
theorem rd_7 {r : Rd} {d : Dr} {ot : Ot} (hr : c.Right) (hm : Okm c m) (hG : rdGood r (M1 pk i m)) (hpl : pk.len ≤ 1000) (hlt : (i : Int) < lim st) (hi : i ≤ 1000) (hph : r.ph = 7) (hd : d.dn = true) (he : d.e = r.no) (hF : Nxt c l off pk h key st i r (M1 pk i m) Fin) :
    CodeC Er4o 2 (bd fn lp) (fr l off pk h key st m m r d ot (i : Int) []) Fin := by
  have hq := hQ_ok hr hm hG hpl hlt
  have e1 : rdSt r (M1 pk i m) = r ∧ rdMe r (M1 pk i m) = M1 pk i m := rd_dn (by show Nat.beq r.ph 7 = true; rw [hph]; rfl) _
  have ht : ∀ k, ∀ p ∈ tQ pk m r i k (Q pk m i) true d.e, p := fun k => tQ_ok hG (by rw [e1.2]) (by rw [e1.1]; show Nat.beq r.ph 7 = true; rw [hph]; rfl) (by rw [e1.1, he])
  have hq' : Q pk m i = (rdMe r (M1 pk i m)).doc := by rw [e1.2]
  obtain ⟨a0, a1, nx, n, w, g, j, o, v, told, e, dn⟩ := d
  simp only at hd he
  subst hd
  have hR : ∀ ot', Rel c (rdSt r (M1 pk i m)) ⟨a0, a1, nx, n, w, g, j, o, v, told, e, true⟩ ot' := fun ot' => by
    rw [e1.1]
    exact .dn hph rfl he
  cases ot with
  | nil => exact fin_run Er4ook rfl (r_7 l off pk h key st m r i a0 a1 n w told e nx g j o v) (pcs_app hq (ht 25)) z2' hi hq' (hF _ _ (hR _))
  | z x => exact fin_run Er4ook rfl (r_7z l off pk h key st m r i a0 a1 n w told e nx g j o v x) (pcs_app hq (ht 27)) z2' hi hq' (hF _ _ (hR _))
  | s k n0 x => exact fin_run Er4ook rfl (r_7s l off pk h key st m r i k n0 a0 a1 n w told e nx g j o v x) (pcs_app hq (ht 28)) z2' hi hq' (hF _ _ (hR _))
theorem rd_1 {q : Nat} {kk sl n w oth no told at' : Int} {en : Et} {j : Jn} {o : On} {lv : Lv} {L : List Int} (hr : c.Right) (hm : Okm c m) (nM : Okm c (M1 pk i m)) (hG : rdGood ⟨1, q, kk, sl, n, w, oth, no, told, at', en, j, o, lv, L⟩ (M1 pk i m)) (hpl : pk.len ≤ 1000) (hlt : (i : Int) < lim st) (hi : i ≤ 1000)
    (hF : Nxt c l off pk h key st i ⟨1, q, kk, sl, n, w, oth, no, told, at', en, j, o, lv, L⟩ (M1 pk i m) Fin) :
    CodeC Er4o 2 (bd fn lp) (fr l off pk h key st m m ⟨1, q, kk, sl, n, w, oth, no, told, at', en, j, o, lv, L⟩ (dOf ⟨1, q, kk, sl, n, w, oth, no, told, at', en, j, o, lv, L⟩ 1) .nil (i : Int) []) Fin := by
  have hrr : rr (Q pk m i) := ⟨nM.1, by show (M1 pk i m).c.Right; rw [nM.2.1]; exact hr⟩
  refine fin_run Er4ook rfl (r_1 l off pk h key st m ⟨1, q, kk, sl, n, w, oth, no, told, at', en, j, o, lv, L⟩ i kk sl n w told no en (docOf j) o lv) (pcs_app (hQ_ok hr hm hG hpl hlt) (List.forall_mem_cons.2 ⟨hrr, tQ_ok hG rfl rfl rfl⟩)) z2' hi rfl (hF _ _ (.lo (.inr (.inl rfl)) rfl rfl))
theorem rd_2 {q : Nat} {kk sl n w oth no told at' : Int} {en : Et} {j : Jn} {o : On} {lv : Lv} {L : List Int} (hr : c.Right) (hm : Okm c m) (nM : Okm c (M1 pk i m)) (hG : rdGood ⟨2, q, kk, sl, n, w, oth, no, told, at', en, j, o, lv, L⟩ (M1 pk i m)) (hpl : pk.len ≤ 1000) (hlt : (i : Int) < lim st) (hi : i ≤ 1000)
    (hF : Nxt c l off pk h key st i ⟨2, q, kk, sl, n, w, oth, no, told, at', en, j, o, lv, L⟩ (M1 pk i m) Fin) :
    CodeC Er4o 2 (bd fn lp) (fr l off pk h key st m m ⟨2, q, kk, sl, n, w, oth, no, told, at', en, j, o, lv, L⟩ (dOf ⟨2, q, kk, sl, n, w, oth, no, told, at', en, j, o, lv, L⟩ 2) .nil (i : Int) []) Fin := by
  have hrr : rr (Q pk m i) := ⟨nM.1, by show (M1 pk i m).c.Right; rw [nM.2.1]; exact hr⟩
  have hq := hQ_ok hr hm hG hpl hlt
  have hv : Wd (vAt (M1 pk i m) 8 kk) := nM.2.2.getW _
  cases hh : hasI (vAt (M1 pk i m) 8 kk) 0 sl with
  | false =>
    have e1 : rdSt ⟨2, q, kk, sl, n, w, oth, no, told, at', en, j, o, lv, L⟩ (M1 pk i m) = ⟨3, q, kk, sl, n, vAt (M1 pk i m) 8 kk, oth, no, told, at', en, j, o, lv, L⟩ := by
      simp only [rdSt, hh, Bool.false_eq_true, if_false, Rd.atW]
    exact fin_run Er4ook rfl (r_2n l off pk h key st m ⟨2, q, kk, sl, n, w, oth, no, told, at', en, j, o, lv, L⟩ i kk sl n w told no en (docOf j) o lv) (pcs_app hq (List.forall_mem_cons.2 ⟨hrr, List.forall_mem_cons.2 ⟨hv, List.forall_mem_cons.2 ⟨hh, tQ_ok hG rfl (by rw [e1]; rfl) (by rw [e1])⟩⟩⟩)) z2' hi rfl (hF _ _ (.lo (.inr (.inr (by rw [e1]))) (by rw [e1]; rfl) rfl))
  | true =>
    by_cases hn : othL (vAt (M1 pk i m) 8 kk) 1 sl = []
    · have e1 : rdSt ⟨2, q, kk, sl, n, w, oth, no, told, at', en, j, o, lv, L⟩ (M1 pk i m) = ⟨6, 2, kk, sl, n, vAt (M1 pk i m) 8 kk, oth, no, 0, at', en, j, o, ⟨sl, 0, -1, false, false⟩, L⟩ := by
        simp only [rdSt, hh, if_true, Rd.atW, Rd.found, hn, Rd.ends]
      exact fin_run EsNok rfl (r_2m l off pk h key st m ⟨2, q, kk, sl, n, w, oth, no, told, at', en, j, o, lv, L⟩ i kk sl n w told no en (docOf j) o lv) (pcs_app hq (List.forall_mem_cons.2 ⟨hrr, List.forall_mem_cons.2 ⟨hv, List.forall_mem_cons.2 ⟨hh, List.forall_mem_cons.2 ⟨⟨hv, hn⟩, tQ_ok hG rfl (by rw [e1]; rfl) (by rw [e1])⟩⟩⟩⟩)) z2' hi rfl (hF _ _ (.lv (by rw [e1]) (by rw [e1]; rfl)))
    · have e1 : rdSt ⟨2, q, kk, sl, n, w, oth, no, told, at', en, j, o, lv, L⟩ (M1 pk i m) = ⟨4, 3, kk, sl, n, vAt (M1 pk i m) 8 kk, (othL (vAt (M1 pk i m) 8 kk) 1 sl).getD 0 0, no, told, 0, en, rdJoin ((othL (vAt (M1 pk i m) 8 kk) 1 sl).getD 0 0) 1 sl n, o, lv, othL (vAt (M1 pk i m) 8 kk) 1 sl⟩ := by
        simp only [rdSt, hh, if_true, Rd.atW, Rd.found, hn, if_false]
      have hp := getD_nil hn
      have hs : ∀ p ∈ sQ (othL (vAt (M1 pk i m) 8 kk) 1 sl), p := pcs_of ⟨by simp; omega, by omega, by omega, hp, trivial⟩
      exact fin_run EsOok rfl (r_2s l off pk h key st m ⟨2, q, kk, sl, n, w, oth, no, told, at', en, j, o, lv, L⟩ i kk sl n w told no en (docOf j) o lv) (pcs_app hq (List.forall_mem_cons.2 ⟨hrr, List.forall_mem_cons.2 ⟨hv, List.forall_mem_cons.2 ⟨hh, List.forall_mem_cons.2 ⟨⟨hv, hn⟩, pcs_app hs (tQ_ok hG rfl (by rw [e1]; rfl) (by rw [e1]))⟩⟩⟩⟩)) z2' hi rfl (hF _ _ (.jo (.inl (by rw [e1])) (by rw [e1]; rfl) (.inl (by rw [e1]; exact ⟨rfl, rfl, rfl, hp⟩))))
theorem rd_3 {q : Nat} {kk sl n w oth no told at' : Int} {en : Et} {j : Jn} {o : On} {lv : Lv} {L : List Int} (hr : c.Right) (hm : Okm c m) (nM : Okm c (M1 pk i m)) (hG : rdGood ⟨3, q, kk, sl, n, w, oth, no, told, at', en, j, o, lv, L⟩ (M1 pk i m)) (hpl : pk.len ≤ 1000) (hlt : (i : Int) < lim st) (hi : i ≤ 1000)
    (hF : Nxt c l off pk h key st i ⟨3, q, kk, sl, n, w, oth, no, told, at', en, j, o, lv, L⟩ (M1 pk i m) Fin) :
    CodeC Er4o 2 (bd fn lp) (fr l off pk h key st m m ⟨3, q, kk, sl, n, w, oth, no, told, at', en, j, o, lv, L⟩ (dOf ⟨3, q, kk, sl, n, w, oth, no, told, at', en, j, o, lv, L⟩ 3) .nil (i : Int) []) Fin := by
  have hrr : rr (Q pk m i) := ⟨nM.1, by show (M1 pk i m).c.Right; rw [nM.2.1]; exact hr⟩
  have hq := hQ_ok hr hm hG hpl hlt
  have hv : Wd w := hG.2.2.w
  cases hh : dnS (M1 pk i m) 8 kk w with
  | false =>
    have e1 : rdSt ⟨3, q, kk, sl, n, w, oth, no, told, at', en, j, o, lv, L⟩ (M1 pk i m) = ⟨2, q, kk, sl, n, w, oth, no, told, at', en, j, o, lv, L⟩ := by
      simp only [rdSt, hh, Bool.false_eq_true, if_false, Rd.atW]
    exact fin_run Er4ook rfl (r_3n l off pk h key st m ⟨3, q, kk, sl, n, w, oth, no, told, at', en, j, o, lv, L⟩ i kk sl n w told no en (docOf j) o lv) (pcs_app hq (List.forall_mem_cons.2 ⟨hv, List.forall_mem_cons.2 ⟨hrr, List.forall_mem_cons.2 ⟨hh, tQ_ok hG rfl (by rw [e1]; rfl) (by rw [e1])⟩⟩⟩)) z2' hi rfl (hF _ _ (.lo (.inr (.inl (by rw [e1]))) (by rw [e1]; rfl) rfl))
  | true =>
    by_cases hn : othL w 1 sl = []
    · have e1 : rdSt ⟨3, q, kk, sl, n, w, oth, no, told, at', en, j, o, lv, L⟩ (M1 pk i m) = ⟨6, 2, kk, sl, n, w, oth, no, 0, at', en, j, o, ⟨sl, 0, -1, false, false⟩, L⟩ := by
        simp only [rdSt, hh, if_true, Rd.found, hn, Rd.ends]
      exact fin_run EsNok rfl (r_3m l off pk h key st m ⟨3, q, kk, sl, n, w, oth, no, told, at', en, j, o, lv, L⟩ i kk sl n w told no en (docOf j) o lv) (pcs_app hq (List.forall_mem_cons.2 ⟨hv, List.forall_mem_cons.2 ⟨hrr, List.forall_mem_cons.2 ⟨hh, List.forall_mem_cons.2 ⟨⟨hv, hn⟩, tQ_ok hG rfl (by rw [e1]; rfl) (by rw [e1])⟩⟩⟩⟩)) z2' hi rfl (hF _ _ (.lv (by rw [e1]) (by rw [e1]; rfl)))
    · have e1 : rdSt ⟨3, q, kk, sl, n, w, oth, no, told, at', en, j, o, lv, L⟩ (M1 pk i m) = ⟨4, 3, kk, sl, n, w, (othL w 1 sl).getD 0 0, no, told, 0, en, rdJoin ((othL w 1 sl).getD 0 0) 1 sl n, o, lv, othL w 1 sl⟩ := by
        simp only [rdSt, hh, if_true, Rd.found, hn, if_false]
      have hp := getD_nil hn
      have hs : ∀ p ∈ sQ (othL w 1 sl), p := pcs_of ⟨by simp; omega, by omega, by omega, hp, trivial⟩
      exact fin_run EsOok rfl (r_3s l off pk h key st m ⟨3, q, kk, sl, n, w, oth, no, told, at', en, j, o, lv, L⟩ i kk sl n w told no en (docOf j) o lv) (pcs_app hq (List.forall_mem_cons.2 ⟨hv, List.forall_mem_cons.2 ⟨hrr, List.forall_mem_cons.2 ⟨hh, List.forall_mem_cons.2 ⟨⟨hv, hn⟩, pcs_app hs (tQ_ok hG rfl (by rw [e1]; rfl) (by rw [e1]))⟩⟩⟩⟩)) z2' hi rfl (hF _ _ (.jo (.inl (by rw [e1])) (by rw [e1]; rfl) (.inl (by rw [e1]; exact ⟨rfl, rfl, rfl, hp⟩))))
theorem rd_6 {q : Nat} {kk sl n w oth no told at' : Int} {en : Et} {j : Jn} {o : On} {lv : Lv} {L : List Int} {ot : Ot} (hr : c.Right) (hm : Okm c m) (nM : Okm c (M1 pk i m)) (hG : rdGood ⟨6, q, kk, sl, n, w, oth, no, told, at', en, j, o, lv, L⟩ (M1 pk i m)) (hpl : pk.len ≤ 1000) (hlt : (i : Int) < lim st) (hi : i ≤ 1000)
    (hF : Nxt c l off pk h key st i ⟨6, q, kk, sl, n, w, oth, no, told, at', en, j, o, lv, L⟩ (M1 pk i m) Fin) :
    CodeC Er4o 2 (bd fn lp) (fr l off pk h key st m m ⟨6, q, kk, sl, n, w, oth, no, told, at', en, j, o, lv, L⟩ (dOf ⟨6, q, kk, sl, n, w, oth, no, told, at', en, j, o, lv, L⟩ 6) ot (i : Int) []) Fin := by
  have hq := hQ_ok hr hm hG hpl hlt
  have hL : lGood lv (Q pk m i) ∧ (Q pk m i).c.Right := ⟨⟨nM.1, nM.2.2, hG.2.2.lv rfl⟩, by show (M1 pk i m).c.Right; rw [nM.2.1]; exact hr⟩
  have em : lMe lv (Q pk m i) = (lMe lv (M1 pk i m)).doc := lv_doc.2
  have es : lSt lv (Q pk m i) = lSt lv (M1 pk i m) := lv_doc.1
  have e0 : rdSt ⟨6, q, kk, sl, n, w, oth, no, told, at', en, j, o, lv, L⟩ (M1 pk i m) = rdLeft ⟨6, q, kk, sl, n, w, oth, no, told, at', en, j, o, lv, L⟩ (lSt lv (M1 pk i m)) := rfl
  cases hd : (lSt lv (M1 pk i m)).dn with
  | false =>
    have e1 : rdSt ⟨6, q, kk, sl, n, w, oth, no, told, at', en, j, o, lv, L⟩ (M1 pk i m) = ⟨6, q, kk, sl, n, w, oth, no, told, at', en, j, o, lSt lv (M1 pk i m), L⟩ := by
      rw [e0]
      simp only [rdLeft, hd, Bool.false_eq_true, if_false]
    have hp : ∀ k, ∀ p ∈ hQ pk st m ⟨6, q, kk, sl, n, w, oth, no, told, at', en, j, o, lv, L⟩ i ++ ((lGood lv (Q pk m i) ∧ (Q pk m i).c.Right) :: ((lSt lv (Q pk m i)).dn = false) :: tQ pk m ⟨6, q, kk, sl, n, w, oth, no, told, at', en, j, o, lv, L⟩ i k (lMe lv (Q pk m i)) false no), p := fun k => pcs_app hq (List.forall_mem_cons.2 ⟨hL, List.forall_mem_cons.2 ⟨by rw [es]; exact hd, tQ_ok hG em (by rw [e1]; rfl) (by rw [e1])⟩⟩)
    have hR : ∀ ot', Rel c (rdSt ⟨6, q, kk, sl, n, w, oth, no, told, at', en, j, o, lv, L⟩ (M1 pk i m)) ⟨kk, sl, 6, n, w, en, docOf j, o, lSt lv (Q pk m i), told, no, false⟩ ot' := fun ot' => .lv (by rw [e1]) (by rw [e1, es]; rfl)
    cases ot with
    | nil => exact fin_run Er4ook rfl (r_6f l off pk h key st m ⟨6, q, kk, sl, n, w, oth, no, told, at', en, j, o, lv, L⟩ i kk sl n w told no en (docOf j) o lv) (hp 25) z2' hi em (hF _ _ (hR _))
    | z x => exact fin_run Er4ook rfl (r_6fz l off pk h key st m ⟨6, q, kk, sl, n, w, oth, no, told, at', en, j, o, lv, L⟩ i kk sl n w told no en (docOf j) o lv x) (hp 27) z2' hi em (hF _ _ (hR _))
    | s k n0 x => exact fin_run Er4ook rfl (r_6fs l off pk h key st m ⟨6, q, kk, sl, n, w, oth, no, told, at', en, j, o, lv, L⟩ i k n0 kk sl n w told no en (docOf j) o lv x) (hp 28) z2' hi em (hF _ _ (hR _))
  | true =>
    have e1 : rdSt ⟨6, q, kk, sl, n, w, oth, no, told, at', en, j, o, lv, L⟩ (M1 pk i m) = ⟨7, q, kk, sl, n, w, oth, told, told, at', en, j, o, lSt lv (M1 pk i m), L⟩ := by
      rw [e0]
      simp only [rdLeft, hd, if_true]
    have hp : ∀ k, ∀ p ∈ hQ pk st m ⟨6, q, kk, sl, n, w, oth, no, told, at', en, j, o, lv, L⟩ i ++ ((lGood lv (Q pk m i) ∧ (Q pk m i).c.Right) :: ((lSt lv (Q pk m i)).dn = true) :: tQ pk m ⟨6, q, kk, sl, n, w, oth, no, told, at', en, j, o, lv, L⟩ i k (lMe lv (Q pk m i)) true told), p := fun k => pcs_app hq (List.forall_mem_cons.2 ⟨hL, List.forall_mem_cons.2 ⟨by rw [es]; exact hd, tQ_ok hG em (by rw [e1]; rfl) (by rw [e1])⟩⟩)
    have hR : ∀ ot', Rel c (rdSt ⟨6, q, kk, sl, n, w, oth, no, told, at', en, j, o, lv, L⟩ (M1 pk i m)) ⟨kk, sl, 6, n, w, en, docOf j, o, lSt lv (Q pk m i), told, told, true⟩ ot' := fun ot' => .dn (by rw [e1]) rfl (by rw [e1])
    cases ot with
    | nil => exact fin_run Er4ook rfl (r_6t l off pk h key st m ⟨6, q, kk, sl, n, w, oth, no, told, at', en, j, o, lv, L⟩ i kk sl n w told no en (docOf j) o lv) (hp 25) z2' hi em (hF _ _ (hR _))
    | z x => exact fin_run Er4ook rfl (r_6tz l off pk h key st m ⟨6, q, kk, sl, n, w, oth, no, told, at', en, j, o, lv, L⟩ i kk sl n w told no en (docOf j) o lv x) (hp 27) z2' hi em (hF _ _ (hR _))
    | s k n0 x => exact fin_run Er4ook rfl (r_6ts l off pk h key st m ⟨6, q, kk, sl, n, w, oth, no, told, at', en, j, o, lv, L⟩ i k n0 kk sl n w told no en (docOf j) o lv x) (hp 28) z2' hi em (hF _ _ (hR _))
theorem rd_5 {q : Nat} {kk sl n w oth no told at' : Int} {en : Et} {j : Jn} {o : On} {lv : Lv} {L : List Int} {ot : Ot} (ho : OtIs ⟨5, q, kk, sl, n, w, oth, no, told, at', en, j, o, lv, L⟩ ot) (hr : c.Right) (hm : Okm c m) (nM : Okm c (M1 pk i m)) (hG : rdGood ⟨5, q, kk, sl, n, w, oth, no, told, at', en, j, o, lv, L⟩ (M1 pk i m)) (hpl : pk.len ≤ 1000) (hlt : (i : Int) < lim st) (hi : i ≤ 1000)
    (hF : Nxt c l off pk h key st i ⟨5, q, kk, sl, n, w, oth, no, told, at', en, j, o, lv, L⟩ (M1 pk i m) Fin) :
    CodeC Er4o 2 (bd fn lp) (fr l off pk h key st m m ⟨5, q, kk, sl, n, w, oth, no, told, at', en, j, o, lv, L⟩ (dOf ⟨5, q, kk, sl, n, w, oth, no, told, at', en, j, o, lv, L⟩ 5) ot (i : Int) []) Fin := by
  have hq := hQ_ok hr hm hG hpl hlt
  have hO : oGood o (Q pk m i) ∧ (Q pk m i).c.Right := ⟨⟨nM.1, nM.2.2, hG.2.2.o rfl⟩, by show (M1 pk i m).c.Right; rw [nM.2.1]; exact hr⟩
  have em : oMe o (Q pk m i) = (oMe o (M1 pk i m)).doc := on_doc.2
  have es : oSt o (Q pk m i) = oSt o (M1 pk i m) := on_doc.1
  have e0 : rdSt ⟨5, q, kk, sl, n, w, oth, no, told, at', en, j, o, lv, L⟩ (M1 pk i m) = rdOwned ⟨5, q, kk, sl, n, w, oth, no, told, at', en, j, o, lv, L⟩ (oSt o (M1 pk i m)) := rfl
  obtain ⟨a0, a1, a2⟩ := hG.2.2.at' (.inr rfl)
  simp only at a0 a1 a2
  have eA : w64 (at' + 1) = at' + 1 := w64_in (by omega) (by omega)
  cases hd : (oSt o (M1 pk i m)).dn with
  | false =>
    have e1 : rdSt ⟨5, q, kk, sl, n, w, oth, no, told, at', en, j, o, lv, L⟩ (M1 pk i m) = ⟨5, q, kk, sl, n, w, oth, no, told, at', en, j, oSt o (M1 pk i m), lv, L⟩ := by
      rw [e0]
      simp only [rdOwned, hd, Bool.false_eq_true, if_false]
    have hp : ∀ k, ∀ p ∈ hQ pk st m ⟨5, q, kk, sl, n, w, oth, no, told, at', en, j, o, lv, L⟩ i ++ ((oGood o (Q pk m i) ∧ (Q pk m i).c.Right) :: ((oSt o (Q pk m i)).dn = false) :: tQ pk m ⟨5, q, kk, sl, n, w, oth, no, told, at', en, j, o, lv, L⟩ i k (oMe o (Q pk m i)) false no), p := fun k => pcs_app hq (List.forall_mem_cons.2 ⟨hO, List.forall_mem_cons.2 ⟨by rw [es]; exact hd, tQ_ok hG em (by rw [e1]; rfl) (by rw [e1])⟩⟩)
    have hR : Rel c (rdSt ⟨5, q, kk, sl, n, w, oth, no, told, at', en, j, o, lv, L⟩ (M1 pk i m)) ⟨kk, sl, 5, n, w, en, docOf j, oSt o (Q pk m i), lv, told, no, false⟩ ot := .jo (.inr (by rw [e1])) (by rw [e1, es]; rfl) (by rw [e1]; exact ho)
    rcases ho with ⟨rfl, _⟩ | ⟨k, n0, rfl, _⟩
    · exact fin_run Er4ook rfl (r_5fz l off pk h key st m ⟨5, q, kk, sl, n, w, oth, no, told, at', en, j, o, lv, L⟩ i kk sl n w told no en (docOf j) o lv L) (hp 27) z2' hi em (hF _ _ hR)
    · exact fin_run Er4ook rfl (r_5fs l off pk h key st m ⟨5, q, kk, sl, n, w, oth, no, told, at', en, j, o, lv, L⟩ i k (n0 + 1) kk sl n w told no en (docOf j) o lv L) (hp 28) z2' hi em (hF _ _ hR)
  | true =>
    have e2 : rdSt ⟨5, q, kk, sl, n, w, oth, no, told, at', en, j, o, lv, L⟩ (M1 pk i m) = Rd.goes ⟨5, q, kk, sl, n, w, oth, no, told, at', en, j, oSt o (M1 pk i m), lv, L⟩ := by
      rw [e0]
      simp only [rdOwned, hd, if_true]
    rcases ho with ⟨rfl, h1, h2, h3⟩ | ⟨k, n0, rfl, h1, h2, h3⟩
    · simp only at h1 h2 h3
      by_cases hL : L.length = 1
      · have e1 : rdSt ⟨5, q, kk, sl, n, w, oth, no, told, at', en, j, o, lv, L⟩ (M1 pk i m) = ⟨6, q, kk, sl, n, w, oth, no, 0, at', en, j, oSt o (M1 pk i m), ⟨sl, 0, -1, false, false⟩, L⟩ := by
          rw [e2]
          unfold Rd.goes
          rw [if_pos (decide_eq_true (by show w64 (at' + 1) ≥ (L.length : Int); rw [eA]; omega))]
          rfl
        refine fin_run Er4ook rfl (r_5ez l off pk h key st m ⟨5, q, kk, sl, n, w, oth, no, told, at', en, j, o, lv, L⟩ i kk sl n w told no en (docOf j) o lv L) (pcs_app hq (List.forall_mem_cons.2 ⟨hO, List.forall_mem_cons.2 ⟨by rw [es]; exact hd, List.forall_mem_cons.2 ⟨by omega, List.forall_mem_cons.2 ⟨Nat.le_refl _, List.forall_mem_cons.2 ⟨by rw [hL]; rfl, tQ_ok hG em (by rw [e1]; rfl) (by rw [e1])⟩⟩⟩⟩⟩)) z2' hi em (hF _ _ (.lv (by rw [e1]) (by rw [e1, es]; rfl)))
      · have e1 : rdSt ⟨5, q, kk, sl, n, w, oth, no, told, at', en, j, o, lv, L⟩ (M1 pk i m) = ⟨4, q3 q, kk, sl, n, w, L.getD 1 0, no, told, 1, en, rdJoin (L.getD 1 0) 1 sl n, oSt o (M1 pk i m), lv, L⟩ := by
          rw [e2]
          unfold Rd.goes
          rw [if_neg (by show ¬ decide (w64 (at' + 1) ≥ (L.length : Int)) = true; rw [eA]; simp; omega)]
          show (⟨4, q3 q, kk, sl, n, w, L.getD (w64 (at' + 1)).toNat 0, no, told, w64 (at' + 1), en, rdJoin (L.getD (w64 (at' + 1)).toNat 0) 1 sl n, oSt o (M1 pk i m), lv, L⟩ : Rd) = _
          rw [show w64 (at' + 1) = 1 by rw [eA]; omega]
          rfl
        refine fin_run Er4ook rfl (r_5gz l off pk h key st m ⟨5, q, kk, sl, n, w, oth, no, told, at', en, j, o, lv, L⟩ i kk sl n w told no en (docOf j) o lv L) (pcs_app hq (List.forall_mem_cons.2 ⟨hO, List.forall_mem_cons.2 ⟨by rw [es]; exact hd, List.forall_mem_cons.2 ⟨by omega, List.forall_mem_cons.2 ⟨Nat.le_refl _, List.forall_mem_cons.2 ⟨by simp; omega, List.forall_mem_cons.2 ⟨by omega, List.forall_mem_cons.2 ⟨by omega, List.forall_mem_cons.2 ⟨Nat.le_refl _, List.forall_mem_cons.2 ⟨show 1 < L.length by omega, tQ_ok hG em (by rw [e1]; rfl) (by rw [e1])⟩⟩⟩⟩⟩⟩⟩⟩⟩)) z2' hi em (hF _ _ (.jo (.inl (by rw [e1])) (by rw [e1, es]; rfl) (.inr ⟨0, L.length - 2, by rw [e1]; show Ot.s 0 (L.length - 1) L = _; rw [show L.length - 2 + 1 = L.length - 1 by omega], by rw [e1]; rfl, by rw [e1], by rw [e1]; show L.length = _; omega⟩)))
    · simp only at h1 h2 h3
      have eK : w64 (at' + 1) = ((k + 2 : Nat) : Int) := by rw [eA]; omega
      by_cases hL : n0 = 0
      · subst hL
        have e1 : rdSt ⟨5, q, kk, sl, n, w, oth, no, told, at', en, j, o, lv, L⟩ (M1 pk i m) = ⟨6, q, kk, sl, n, w, oth, no, 0, at', en, j, oSt o (M1 pk i m), ⟨sl, 0, -1, false, false⟩, L⟩ := by
          rw [e2]
          unfold Rd.goes
          rw [if_pos (decide_eq_true (by show w64 (at' + 1) ≥ (L.length : Int); rw [eA]; omega))]
          rfl
        refine fin_run Er4ook rfl (r_5es l off pk h key st m ⟨5, q, kk, sl, n, w, oth, no, told, at', en, j, o, lv, L⟩ i k 0 kk sl n w told no en (docOf j) o lv L) (pcs_app hq (List.forall_mem_cons.2 ⟨hO, List.forall_mem_cons.2 ⟨by rw [es]; exact hd, List.forall_mem_cons.2 ⟨by omega, List.forall_mem_cons.2 ⟨Nat.le_refl _, List.forall_mem_cons.2 ⟨by rfl, tQ_ok hG em (by rw [e1]; rfl) (by rw [e1])⟩⟩⟩⟩⟩)) z2' hi em (hF _ _ (.lv (by rw [e1]) (by rw [e1, es]; rfl)))
      · have e1 : rdSt ⟨5, q, kk, sl, n, w, oth, no, told, at', en, j, o, lv, L⟩ (M1 pk i m) = ⟨4, q3 q, kk, sl, n, w, L.getD (k + 2) 0, no, told, ((k + 2 : Nat) : Int), en, rdJoin (L.getD (k + 2) 0) 1 sl n, oSt o (M1 pk i m), lv, L⟩ := by
          rw [e2]
          unfold Rd.goes
          rw [if_neg (by show ¬ decide (w64 (at' + 1) ≥ (L.length : Int)) = true; rw [eA]; simp; omega)]
          show (⟨4, q3 q, kk, sl, n, w, L.getD (w64 (at' + 1)).toNat 0, no, told, w64 (at' + 1), en, rdJoin (L.getD (w64 (at' + 1)).toNat 0) 1 sl n, oSt o (M1 pk i m), lv, L⟩ : Rd) = _
          rw [eK]
          rfl
        refine fin_run Er4ook rfl (r_5gs l off pk h key st m ⟨5, q, kk, sl, n, w, oth, no, told, at', en, j, o, lv, L⟩ i k n0 kk sl n w told no en (docOf j) o lv L) (pcs_app hq (List.forall_mem_cons.2 ⟨hO, List.forall_mem_cons.2 ⟨by rw [es]; exact hd, List.forall_mem_cons.2 ⟨by omega, List.forall_mem_cons.2 ⟨Nat.le_refl _, List.forall_mem_cons.2 ⟨by simp; omega, List.forall_mem_cons.2 ⟨by omega, List.forall_mem_cons.2 ⟨by omega, List.forall_mem_cons.2 ⟨Nat.le_refl _, List.forall_mem_cons.2 ⟨show k + 2 < L.length by omega, tQ_ok hG em (by rw [e1]; rfl) (by rw [e1])⟩⟩⟩⟩⟩⟩⟩⟩⟩)) z2' hi em (hF _ _ (.jo (.inl (by rw [e1])) (by rw [e1, es]; rfl) (.inr ⟨k + 1, n0 - 1, by rw [e1]; show Ot.s (k + 1) n0 L = _; rw [show n0 - 1 + 1 = n0 by omega], by rw [e1]; show ((k + 2 : Nat) : Int) = ((k + 1 : Nat) : Int) + 1; omega, by rw [e1], by rw [e1]; show L.length = _; omega⟩)))
theorem rd_4 {q : Nat} {kk sl n w oth no told at' : Int} {en : Et} {j : Jn} {o : On} {lv : Lv} {L : List Int} {ot : Ot} (ho : OtIs ⟨4, q, kk, sl, n, w, oth, no, told, at', en, j, o, lv, L⟩ ot) (hr : c.Right) (hm : Okm c m) (nM : Okm c (M1 pk i m)) (hG : rdGood ⟨4, q, kk, sl, n, w, oth, no, told, at', en, j, o, lv, L⟩ (M1 pk i m)) (hpl : pk.len ≤ 1000) (hlt : (i : Int) < lim st) (hi : i ≤ 1000)
    (hF : Nxt c l off pk h key st i ⟨4, q, kk, sl, n, w, oth, no, told, at', en, j, o, lv, L⟩ (M1 pk i m) Fin) :
    CodeC Er4o 2 (bd fn lp) (fr l off pk h key st m m ⟨4, q, kk, sl, n, w, oth, no, told, at', en, j, o, lv, L⟩ (dOf ⟨4, q, kk, sl, n, w, oth, no, told, at', en, j, o, lv, L⟩ 4) ot (i : Int) []) Fin := by
  have hq := hQ_ok hr hm hG hpl hlt
  have hJ : jGood j (M1 pk i m) := ⟨nM.1, nM.2.2, hG.2.2.j rfl⟩
  have hD : dGood (docOf j) (Q pk m i) := docGood hJ (by rw [nM.2.1]; exact hr)
  obtain ⟨es, em⟩ := both hJ
  have er : (dSt (docOf j) (Q pk m i)).r = (jSt j (M1 pk i m)).r := by rw [es]; rfl
  have e0 : rdSt ⟨4, q, kk, sl, n, w, oth, no, told, at', en, j, o, lv, L⟩ (M1 pk i m) = rdJoined ⟨4, q, kk, sl, n, w, oth, no, told, at', en, j, o, lv, L⟩ (jSt j (M1 pk i m)) := rfl
  obtain ⟨a0, a1, a2⟩ := hG.2.2.at' (.inl rfl)
  simp only at a0 a1 a2
  have eA : w64 (at' + 1) = at' + 1 := w64_in (by omega) (by omega)
  by_cases h1 : (jSt j (M1 pk i m)).r = 1
  · have b1 : ((dSt (docOf j) (Q pk m i)).r == 1) = true := by rw [er, h1]; rfl
    have e2 : rdSt ⟨4, q, kk, sl, n, w, oth, no, told, at', en, j, o, lv, L⟩ (M1 pk i m) = Rd.goes ⟨4, q, kk, sl, n, w, oth, no, told, at', en, jSt j (M1 pk i m), o, lv, L⟩ := by
      rw [e0]
      have c2 : ((jSt j (M1 pk i m)).r == 2) = false := by rw [h1]; rfl
      have c1 : ((jSt j (M1 pk i m)).r == 1) = true := by rw [h1]; rfl
      simp only [rdJoined, c2, c1, Bool.false_eq_true, if_false, if_true]
    rcases ho with ⟨rfl, h2, h3, h4⟩ | ⟨k, n0, rfl, h2, h3, h4⟩
    · simp only at h2 h3 h4
      by_cases hL : L.length = 1
      · have e1 : rdSt ⟨4, q, kk, sl, n, w, oth, no, told, at', en, j, o, lv, L⟩ (M1 pk i m) = ⟨6, q, kk, sl, n, w, oth, no, 0, at', en, jSt j (M1 pk i m), o, ⟨sl, 0, -1, false, false⟩, L⟩ := by
          rw [e2]
          unfold Rd.goes
          rw [if_pos (decide_eq_true (by show w64 (at' + 1) ≥ (L.length : Int); rw [eA]; omega))]
          rfl
        refine fin_run Er4ook rfl (r_4ez l off pk h key st m ⟨4, q, kk, sl, n, w, oth, no, told, at', en, j, o, lv, L⟩ i kk sl n w told no en (docOf j) o lv L) (pcs_app hq (List.forall_mem_cons.2 ⟨hD, List.forall_mem_cons.2 ⟨b1, List.forall_mem_cons.2 ⟨by omega, List.forall_mem_cons.2 ⟨Nat.le_refl _, List.forall_mem_cons.2 ⟨by rw [hL]; rfl, tQ_ok hG em (by rw [e1]; rfl) (by rw [e1])⟩⟩⟩⟩⟩)) z2' hi em (hF _ _ (.lv (by rw [e1]) (by rw [e1, es]; rfl)))
      · have e1 : rdSt ⟨4, q, kk, sl, n, w, oth, no, told, at', en, j, o, lv, L⟩ (M1 pk i m) = ⟨4, q3 q, kk, sl, n, w, L.getD 1 0, no, told, 1, en, rdJoin (L.getD 1 0) 1 sl n, o, lv, L⟩ := by
          rw [e2]
          unfold Rd.goes
          rw [if_neg (by show ¬ decide (w64 (at' + 1) ≥ (L.length : Int)) = true; rw [eA]; simp; omega)]
          show (⟨4, q3 q, kk, sl, n, w, L.getD (w64 (at' + 1)).toNat 0, no, told, w64 (at' + 1), en, rdJoin (L.getD (w64 (at' + 1)).toNat 0) 1 sl n, o, lv, L⟩ : Rd) = _
          rw [show w64 (at' + 1) = 1 by rw [eA]; omega]
          rfl
        refine fin_run Er4ook rfl (r_4gz l off pk h key st m ⟨4, q, kk, sl, n, w, oth, no, told, at', en, j, o, lv, L⟩ i kk sl n w told no en (docOf j) o lv L) (pcs_app hq (List.forall_mem_cons.2 ⟨hD, List.forall_mem_cons.2 ⟨b1, List.forall_mem_cons.2 ⟨by omega, List.forall_mem_cons.2 ⟨Nat.le_refl _, List.forall_mem_cons.2 ⟨by simp; omega, List.forall_mem_cons.2 ⟨by omega, List.forall_mem_cons.2 ⟨by omega, List.forall_mem_cons.2 ⟨Nat.le_refl _, List.forall_mem_cons.2 ⟨show 1 < L.length by omega, tQ_ok hG em (by rw [e1]; rfl) (by rw [e1])⟩⟩⟩⟩⟩⟩⟩⟩⟩)) z2' hi em (hF _ _ (.jo (.inl (by rw [e1])) (by rw [e1]; rfl) (.inr ⟨0, L.length - 2, by rw [e1]; show Ot.s 0 (L.length - 1) L = _; rw [show L.length - 2 + 1 = L.length - 1 by omega], by rw [e1]; rfl, by rw [e1], by rw [e1]; show L.length = _; omega⟩)))
    · simp only at h2 h3 h4
      have eK : w64 (at' + 1) = ((k + 2 : Nat) : Int) := by rw [eA]; omega
      by_cases hL : n0 = 0
      · subst hL
        have e1 : rdSt ⟨4, q, kk, sl, n, w, oth, no, told, at', en, j, o, lv, L⟩ (M1 pk i m) = ⟨6, q, kk, sl, n, w, oth, no, 0, at', en, jSt j (M1 pk i m), o, ⟨sl, 0, -1, false, false⟩, L⟩ := by
          rw [e2]
          unfold Rd.goes
          rw [if_pos (decide_eq_true (by show w64 (at' + 1) ≥ (L.length : Int); rw [eA]; omega))]
          rfl
        refine fin_run Er4ook rfl (r_4es l off pk h key st m ⟨4, q, kk, sl, n, w, oth, no, told, at', en, j, o, lv, L⟩ i k 0 kk sl n w told no en (docOf j) o lv L) (pcs_app hq (List.forall_mem_cons.2 ⟨hD, List.forall_mem_cons.2 ⟨b1, List.forall_mem_cons.2 ⟨by omega, List.forall_mem_cons.2 ⟨Nat.le_refl _, List.forall_mem_cons.2 ⟨by rfl, tQ_ok hG em (by rw [e1]; rfl) (by rw [e1])⟩⟩⟩⟩⟩)) z2' hi em (hF _ _ (.lv (by rw [e1]) (by rw [e1, es]; rfl)))
      · have e1 : rdSt ⟨4, q, kk, sl, n, w, oth, no, told, at', en, j, o, lv, L⟩ (M1 pk i m) = ⟨4, q3 q, kk, sl, n, w, L.getD (k + 2) 0, no, told, ((k + 2 : Nat) : Int), en, rdJoin (L.getD (k + 2) 0) 1 sl n, o, lv, L⟩ := by
          rw [e2]
          unfold Rd.goes
          rw [if_neg (by show ¬ decide (w64 (at' + 1) ≥ (L.length : Int)) = true; rw [eA]; simp; omega)]
          show (⟨4, q3 q, kk, sl, n, w, L.getD (w64 (at' + 1)).toNat 0, no, told, w64 (at' + 1), en, rdJoin (L.getD (w64 (at' + 1)).toNat 0) 1 sl n, o, lv, L⟩ : Rd) = _
          rw [eK]
          rfl
        refine fin_run Er4ook rfl (r_4gs l off pk h key st m ⟨4, q, kk, sl, n, w, oth, no, told, at', en, j, o, lv, L⟩ i k n0 kk sl n w told no en (docOf j) o lv L) (pcs_app hq (List.forall_mem_cons.2 ⟨hD, List.forall_mem_cons.2 ⟨b1, List.forall_mem_cons.2 ⟨by omega, List.forall_mem_cons.2 ⟨Nat.le_refl _, List.forall_mem_cons.2 ⟨by simp; omega, List.forall_mem_cons.2 ⟨by omega, List.forall_mem_cons.2 ⟨by omega, List.forall_mem_cons.2 ⟨Nat.le_refl _, List.forall_mem_cons.2 ⟨show k + 2 < L.length by omega, tQ_ok hG em (by rw [e1]; rfl) (by rw [e1])⟩⟩⟩⟩⟩⟩⟩⟩⟩)) z2' hi em (hF _ _ (.jo (.inl (by rw [e1])) (by rw [e1]; rfl) (.inr ⟨k + 1, n0 - 1, by rw [e1]; show Ot.s (k + 1) n0 L = _; rw [show n0 - 1 + 1 = n0 by omega], by rw [e1]; show ((k + 2 : Nat) : Int) = ((k + 1 : Nat) : Int) + 1; omega, by rw [e1], by rw [e1]; show L.length = _; omega⟩)))
  have b1 : ((dSt (docOf j) (Q pk m i)).r == 1) = false := by rw [er]; exact beq_false_of_ne h1
  have c1 : ((jSt j (M1 pk i m)).r == 1) = false := beq_false_of_ne h1
  by_cases h2 : (jSt j (M1 pk i m)).r = 2
  · have b2 : ((dSt (docOf j) (Q pk m i)).r == 2) = true := by rw [er, h2]; rfl
    have e1 : rdSt ⟨4, q, kk, sl, n, w, oth, no, told, at', en, j, o, lv, L⟩ (M1 pk i m) = ⟨5, 4, kk, sl, n, w, oth, no, told, at', en, jSt j (M1 pk i m), ⟨sl, 0, oth, 0, false, false⟩, lv, L⟩ := by
      rw [e0]
      have c2 : ((jSt j (M1 pk i m)).r == 2) = true := by rw [h2]; rfl
      simp only [rdJoined, c2, if_true]
    have ho' : OtIs ⟨5, 4, kk, sl, n, w, oth, no, told, at', en, jSt j (M1 pk i m), ⟨sl, 0, oth, 0, false, false⟩, lv, L⟩ ot := ho
    rcases ho with ⟨rfl, h3, h4, h5⟩ | ⟨k, n0, rfl, h3, h4, h5⟩
    · simp only at h3 h4 h5
      refine fin_run Er4ook rfl (r_4oz l off pk h key st m ⟨4, q, kk, sl, n, w, oth, no, told, at', en, j, o, lv, L⟩ i kk sl n w told no en (docOf j) o lv L) (pcs_app hq (List.forall_mem_cons.2 ⟨hD, List.forall_mem_cons.2 ⟨b1, List.forall_mem_cons.2 ⟨b2, List.forall_mem_cons.2 ⟨by omega, List.forall_mem_cons.2 ⟨by omega, List.forall_mem_cons.2 ⟨h5, tQ_ok hG em (by rw [e1]; rfl) (by rw [e1])⟩⟩⟩⟩⟩⟩)) z2' hi em (hF _ _ (.jo (.inr (by rw [e1])) (by rw [e1, es, h4]; rfl) (by rw [e1]; exact ho')))
    · simp only at h3 h4 h5
      refine fin_run Er4ook rfl (r_4os l off pk h key st m ⟨4, q, kk, sl, n, w, oth, no, told, at', en, j, o, lv, L⟩ i k (n0 + 1) kk sl n w told no en (docOf j) o lv L) (pcs_app hq (List.forall_mem_cons.2 ⟨hD, List.forall_mem_cons.2 ⟨b1, List.forall_mem_cons.2 ⟨b2, List.forall_mem_cons.2 ⟨by omega, List.forall_mem_cons.2 ⟨by omega, List.forall_mem_cons.2 ⟨Nat.le_refl _, List.forall_mem_cons.2 ⟨show k + 1 < L.length by omega, tQ_ok hG em (by rw [e1]; rfl) (by rw [e1])⟩⟩⟩⟩⟩⟩⟩)) z2' hi em (hF _ _ (.jo (.inr (by rw [e1])) (by rw [e1, es, h4]; rfl) (by rw [e1]; exact ho')))
  have b2 : ((dSt (docOf j) (Q pk m i)).r == 2) = false := by rw [er]; exact beq_false_of_ne h2
  have c2 : ((jSt j (M1 pk i m)).r == 2) = false := beq_false_of_ne h2
  by_cases h3 : (jSt j (M1 pk i m)).r = 3
  · have b3 : ((dSt (docOf j) (Q pk m i)).r == 3) = true := by rw [er, h3]; rfl
    have e1 : rdSt ⟨4, q, kk, sl, n, w, oth, no, told, at', en, j, o, lv, L⟩ (M1 pk i m) = ⟨6, q, kk, sl, n, w, oth, no, 7, at', en, jSt j (M1 pk i m), o, ⟨sl, 0, 5, false, false⟩, L⟩ := by
      rw [e0]
      have c3 : ((jSt j (M1 pk i m)).r == 3) = true := by rw [h3]; rfl
      simp only [rdJoined, c1, c2, c3, Bool.false_eq_true, if_false, if_true, Rd.ends]
    rcases ho with ⟨rfl, h4⟩ | ⟨k, n0, rfl, h4⟩
    · refine fin_run Er4ook rfl (r_4xz l off pk h key st m ⟨4, q, kk, sl, n, w, oth, no, told, at', en, j, o, lv, L⟩ i kk sl n w told no en (docOf j) o lv L) (pcs_app hq (List.forall_mem_cons.2 ⟨hD, List.forall_mem_cons.2 ⟨b1, List.forall_mem_cons.2 ⟨b2, List.forall_mem_cons.2 ⟨b3, tQ_ok hG em (by rw [e1]; rfl) (by rw [e1])⟩⟩⟩⟩)) z2' hi em (hF _ _ (.lv (by rw [e1]) (by rw [e1, es]; rfl)))
    · refine fin_run Er4ook rfl (r_4xs l off pk h key st m ⟨4, q, kk, sl, n, w, oth, no, told, at', en, j, o, lv, L⟩ i k (n0 + 1) kk sl n w told no en (docOf j) o lv L) (pcs_app hq (List.forall_mem_cons.2 ⟨hD, List.forall_mem_cons.2 ⟨b1, List.forall_mem_cons.2 ⟨b2, List.forall_mem_cons.2 ⟨b3, tQ_ok hG em (by rw [e1]; rfl) (by rw [e1])⟩⟩⟩⟩)) z2' hi em (hF _ _ (.lv (by rw [e1]) (by rw [e1, es]; rfl)))
  have b3 : ((dSt (docOf j) (Q pk m i)).r == 3) = false := by rw [er]; exact beq_false_of_ne h3
  have c3 : ((jSt j (M1 pk i m)).r == 3) = false := beq_false_of_ne h3
  have e1 : rdSt ⟨4, q, kk, sl, n, w, oth, no, told, at', en, j, o, lv, L⟩ (M1 pk i m) = ⟨4, q, kk, sl, n, w, oth, no, told, at', en, jSt j (M1 pk i m), o, lv, L⟩ := by
    rw [e0]
    simp only [rdJoined, c1, c2, c3, Bool.false_eq_true, if_false]
  have ho' : OtIs ⟨4, q, kk, sl, n, w, oth, no, told, at', en, jSt j (M1 pk i m), o, lv, L⟩ ot := ho
  rcases ho with ⟨rfl, h4⟩ | ⟨k, n0, rfl, h4⟩
  · refine fin_run Er4ook rfl (r_4fz l off pk h key st m ⟨4, q, kk, sl, n, w, oth, no, told, at', en, j, o, lv, L⟩ i kk sl n w told no en (docOf j) o lv L) (pcs_app hq (List.forall_mem_cons.2 ⟨hD, List.forall_mem_cons.2 ⟨b1, List.forall_mem_cons.2 ⟨b2, List.forall_mem_cons.2 ⟨b3, tQ_ok hG em (by rw [e1]; rfl) (by rw [e1])⟩⟩⟩⟩)) z2' hi em (hF _ _ (.jo (.inl (by rw [e1])) (by rw [e1, es]; rfl) (by rw [e1]; exact ho')))
  · refine fin_run Er4ook rfl (r_4fs l off pk h key st m ⟨4, q, kk, sl, n, w, oth, no, told, at', en, j, o, lv, L⟩ i k (n0 + 1) kk sl n w told no en (docOf j) o lv L) (pcs_app hq (List.forall_mem_cons.2 ⟨hD, List.forall_mem_cons.2 ⟨b1, List.forall_mem_cons.2 ⟨b2, List.forall_mem_cons.2 ⟨b3, tQ_ok hG em (by rw [e1]; rfl) (by rw [e1])⟩⟩⟩⟩)) z2' hi em (hF _ _ (.jo (.inl (by rw [e1])) (by rw [e1, es]; rfl) (by rw [e1]; exact ho')))
end
end Go.Proofs.YtmpidecpfcikoaaGreat.ReadStepsDone
namespace Go.Proofs.YtmpidecpfcikoaaGreat.ReadStepsDone
open Go Go.Proofs Go.Proofs.YtmpidecpfcikoaaGreat.Ev Go.Proofs.YtmpidecpfcikoaaGreat.Ct
open Go.RowKit

theorem mv_busy {w : Int} (hw : Wd w) : mvI w (nuI w 27 3) true = putI w 26 true := by
  obtain ⟨h0, _⟩ := hw
  rw [put26]
  unfold mvI
  have e : nuI w 27 3 = w / 134217728 % 8 := rfl
  rw [e]
  simp only [if_true]
  omega
open Dec in
section
variable {c : Cfg} {l : List Int} {off : Nat} {pk : Pk} {h key st : Int} {m : Mm} {i : Nat} {Fin : Ex → Fr → Prop}
theorem rd_0 {q : Nat} {kk sl n w oth no told at' : Int} {en : Et} {j : Jn} {o : On} {lv : Lv} {L : List Int} (hn : en.dn = false) (hs : en.sl = tkS en.h) (hk : ofOk en.h c.s = true) (hx : en.tk = true → en.no = 0) (hr : c.Right) (hm : Okm c m) (nM : Okm c (M1 pk i m)) (hG : rdGood ⟨0, q, kk, sl, n, w, oth, no, told, at', en, j, o, lv, L⟩ (M1 pk i m)) (hpl : pk.len ≤ 1000) (hlt : (i : Int) < lim st) (hi : i ≤ 1000)
    (hF : Nxt c l off pk h key st i ⟨0, q, kk, sl, n, w, oth, no, told, at', en, j, o, lv, L⟩ (M1 pk i m) Fin) :
    CodeC Er4o 2 (bd fn lp) (fr l off pk h key st m m ⟨0, q, kk, sl, n, w, oth, no, told, at', en, j, o, lv, L⟩ (dOf ⟨0, q, kk, sl, n, w, oth, no, told, at', en, j, o, lv, L⟩ 0) .nil (i : Int) []) Fin := by
  have hrr : rr (Q pk m i) := ⟨nM.1, by show (M1 pk i m).c.Right; rw [nM.2.1]; exact hr⟩
  have hq := hQ_ok hr hm hG hpl hlt
  obtain ⟨gs, gh⟩ := hG.2.2.en rfl
  have hks : ofOk en.h (M1 pk i m).c.s = true := by rw [nM.2.1]; exact hk
  have hkq : (!ofOk en.h (Q pk m i).c.s) = false := by show (!ofOk en.h (M1 pk i m).c.s) = false; rw [hks]; rfl
  have nd : ¬ en.dn = true := by rw [hn]; decide
  have hE : enGood en.w2 (M1 pk i m) := ⟨nM.1, nM.2.2, gs, gh, by show 1 ≤ 1000; omega⟩
  have hMc : (enMe en.w2 (M1 pk i m)).c = c := (enMe_ok hE).2.1.trans nM.2.1
  have e0 : rdSt ⟨0, q, kk, sl, n, w, oth, no, told, at', en, j, o, lv, L⟩ (M1 pk i m) = rdEnter ⟨0, q, kk, sl, n, w, oth, no, told, at', en, j, o, lv, L⟩ (enSt en.w2 (M1 pk i m)) (enMe en.w2 (M1 pk i m)) := rfl
  cases htk : en.tk with
  | true =>
    have hno : en.no = 0 := hx htk
    have hmv : mvI en.s (nuI en.s 27 3) true = putI en.s 26 true := mv_busy gs
    have em : mSw (Q pk m i) 4 (tkS en.h) en.s (putI en.s 26 true) = (enMe en.w2 (M1 pk i m)).doc := by
      unfold enMe
      rw [if_neg (show ¬ en.w2.dn = true from nd), if_pos (show ofOk en.w2.h (M1 pk i m).c.s = true from hks), if_pos (show en.w2.tk = true from htk)]
      show _ = (mSw (M1 pk i m) 4 en.sl en.s (mvI en.s (nuI en.s 27 3) true)).doc
      rw [hmv, hs]
      rfl
    cases hsw : dnS (M1 pk i m) 4 (tkS en.h) en.s with
    | true =>
      have eX : enSt en.w2 (M1 pk i m) = ⟨en.sl, en.s, en.h, row2, false, true, en.no, putI en.s 26 true⟩ := by
        unfold enSt
        rw [if_neg (show ¬ en.w2.dn = true from nd), if_pos (show ofOk en.w2.h (M1 pk i m).c.s = true from hks), if_pos (show en.w2.tk = true from htk)]
        show (⟨en.sl, en.s, en.h, row2, false, dnS (M1 pk i m) 4 en.sl en.s, en.no, if dnS (M1 pk i m) 4 en.sl en.s = true then mvI en.s (nuI en.s 27 3) true else en.wd⟩ : En) = _
        rw [hs, hsw, if_pos rfl, hmv]
      have e1 : rdSt ⟨0, q, kk, sl, n, w, oth, no, told, at', en, j, o, lv, L⟩ (M1 pk i m) = ⟨1, 1, kk, sl, n, w, oth, en.no, told, at', ⟨en.sl, en.s, en.h, false, true, en.no, putI en.s 26 true⟩, j, o, lv, L⟩ := by
        rw [e0, eX]
        unfold rdEnter errI
        rw [hMc]
        simp only [hk, hno, if_true, Bool.true_or]
        rfl
      have hdn : (en.no != 0) = false := by rw [hno]; rfl
      exact fin_run Er4ook rfl (r_D1 l off pk h key st m ⟨0, q, kk, sl, n, w, oth, no, told, at', en, j, o, lv, L⟩ i kk sl n w told no en (docOf j) o lv) (pcs_app hq (pcs_app (pcs_of ⟨hn, gh, hkq, by rw [htk]; rfl, ⟨gs, by omega⟩, gh, hrr, hsw, trivial⟩) (tQ_ok hG em (by rw [e1, hdn]; rfl) (by rw [e1])))) z2' hi em (hF _ _ (.lo (.inl (by rw [e1])) (by rw [e1, hdn]; rfl) rfl))
    | false =>
      have eX : enSt en.w2 (M1 pk i m) = ⟨en.sl, en.s, en.h, row2, false, false, en.no, en.wd⟩ := by
        unfold enSt
        rw [if_neg (show ¬ en.w2.dn = true from nd), if_pos (show ofOk en.w2.h (M1 pk i m).c.s = true from hks), if_pos (show en.w2.tk = true from htk)]
        show (⟨en.sl, en.s, en.h, row2, false, dnS (M1 pk i m) 4 en.sl en.s, en.no, if dnS (M1 pk i m) 4 en.sl en.s = true then mvI en.s (nuI en.s 27 3) true else en.wd⟩ : En) = _
        rw [hs, hsw]
        rfl
      have e1 : rdSt ⟨0, q, kk, sl, n, w, oth, no, told, at', en, j, o, lv, L⟩ (M1 pk i m) = ⟨0, 1, kk, sl, n, w, oth, no, told, at', ⟨en.sl, en.s, en.h, false, false, en.no, en.wd⟩, j, o, lv, L⟩ := by
        rw [e0, eX]
        unfold rdEnter
        rw [hMc]
        simp only [hk, Bool.false_or, Bool.not_true, Bool.false_eq_true, if_false]
        rfl
      exact fin_run Er4ook rfl (r_D2 l off pk h key st m ⟨0, q, kk, sl, n, w, oth, no, told, at', en, j, o, lv, L⟩ i kk sl n w told no en (docOf j) o lv) (pcs_app hq (pcs_app (pcs_app (pcs_of ⟨hn, gh, hkq, by rw [htk]; rfl, ⟨gs, by omega⟩, gh, hrr, hsw, trivial⟩) (pcs_of ⟨hn, trivial⟩)) (tQ_ok hG em (by rw [e1]; rfl) (by rw [e1])))) z2' hi em (hF _ _ (.en (by rw [e1]) (by rw [e1, hn]; rfl) rfl (by rw [e1]) (by rw [e1]; exact hs) (by rw [e1]; exact hk) (by rw [e1]; intro x; cases x)))
  | false =>
    have ntk : ¬ en.tk = true := by rw [htk]; decide
    have em : mLd (Q pk m i) 4 (tkS en.h) = (enMe en.w2 (M1 pk i m)).doc := by
      unfold enMe
      rw [if_neg (show ¬ en.w2.dn = true from nd), if_pos (show ofOk en.w2.h (M1 pk i m).c.s = true from hks), if_neg (show ¬ en.w2.tk = true from ntk)]
      show _ = (mLd (M1 pk i m) 4 en.sl).doc
      rw [hs]
      rfl
    have hv : Wd (SS pk m i en.h) := nM.2.2.getW _
    have eX : enSt en.w2 (M1 pk i m) = ⟨en.sl, SS pk m i en.h, en.h, row2, fltI (SS pk m i en.h) en.h [2] == 0, fltI (SS pk m i en.h) en.h [2] != 0, fltI (SS pk m i en.h) en.h [2], en.wd⟩ := by
      unfold enSt
      rw [if_neg (show ¬ en.w2.dn = true from nd), if_pos (show ofOk en.w2.h (M1 pk i m).c.s = true from hks), if_neg (show ¬ en.w2.tk = true from ntk)]
      show (⟨en.sl, getW (M1 pk i m).w (cellIx (M1 pk i m).c 4 en.sl), en.h, row2, fltI (getW (M1 pk i m).w (cellIx (M1 pk i m).c 4 en.sl)) en.h [2] == 0, fltI (getW (M1 pk i m).w (cellIx (M1 pk i m).c 4 en.sl)) en.h [2] != 0, fltI (getW (M1 pk i m).w (cellIx (M1 pk i m).c 4 en.sl)) en.h [2], en.wd⟩ : En) = _
      rw [hs]
      rfl
    have hpC : ∀ p ∈ pC pk m en i, p := pcs_of ⟨hn, gh, hkq, by rw [htk]; rfl, gh, hrr, hv, hv, gh, trivial⟩
    have kx : ∀ er : Int, er ≠ 0 → fltI (SS pk m i en.h) en.h [2] = er → rdSt ⟨0, q, kk, sl, n, w, oth, no, told, at', en, j, o, lv, L⟩ (M1 pk i m) = ⟨7, 1, kk, sl, n, w, oth, er, told, at', ⟨en.sl, SS pk m i en.h, en.h, false, true, er, en.wd⟩, j, o, lv, L⟩ := fun er h0 hf => by
      rw [e0, eX, hf]
      unfold rdEnter errI
      rw [hMc]
      simp only [hk, if_true, beq_eq_false_iff_ne.2 h0, bne_iff_ne.2 h0, Bool.true_or]
      rfl
    by_cases h1 : (nuI (SS pk m i en.h) 30 32 != tkG en.h) = true
    · have e1 := kx 2 (by decide) (by unfold fltI; rw [if_pos h1])
      exact fin_run Er4ook rfl (r_C1 l off pk h key st m ⟨0, q, kk, sl, n, w, oth, no, told, at', en, j, o, lv, L⟩ i kk sl n w told no en (docOf j) o lv) (pcs_app hq (pcs_app (pcs_app hpC (pcs_of ⟨h1, trivial⟩)) (tQ_ok hG em (by rw [e1]; rfl) (by rw [e1])))) z2' hi em (hF _ _ (.dn (by rw [e1]) rfl (by rw [e1])))
    have b1 := eq_false_of_ne_true h1
    by_cases h2 : (nuI (SS pk m i en.h) 27 3 == 0) = true
    · have e1 := kx 2 (by decide) (by unfold fltI; rw [if_neg h1, if_pos h2])
      exact fin_run Er4ook rfl (r_C2 l off pk h key st m ⟨0, q, kk, sl, n, w, oth, no, told, at', en, j, o, lv, L⟩ i kk sl n w told no en (docOf j) o lv) (pcs_app hq (pcs_app (pcs_app hpC (pcs_of ⟨b1, h2, trivial⟩)) (tQ_ok hG em (by rw [e1]; rfl) (by rw [e1])))) z2' hi em (hF _ _ (.dn (by rw [e1]) rfl (by rw [e1])))
    have b2 := eq_false_of_ne_true h2
    by_cases h3 : (nuI (SS pk m i en.h) 27 3 == 1) = true
    · have e1 := kx 2 (by decide) (by unfold fltI; rw [if_neg h1, if_neg h2, if_pos h3])
      exact fin_run Er4ook rfl (r_C3 l off pk h key st m ⟨0, q, kk, sl, n, w, oth, no, told, at', en, j, o, lv, L⟩ i kk sl n w told no en (docOf j) o lv) (pcs_app hq (pcs_app (pcs_app hpC (pcs_of ⟨b1, b2, h3, trivial⟩)) (tQ_ok hG em (by rw [e1]; rfl) (by rw [e1])))) z2' hi em (hF _ _ (.dn (by rw [e1]) rfl (by rw [e1])))
    have b3 := eq_false_of_ne_true h3
    by_cases h4 : bitI (SS pk m i en.h) 26 = true
    · have e1 := kx 3 (by decide) (by unfold fltI; rw [if_neg h1, if_neg h2, if_neg h3, if_pos h4])
      exact fin_run Er4ook rfl (r_C4 l off pk h key st m ⟨0, q, kk, sl, n, w, oth, no, told, at', en, j, o, lv, L⟩ i kk sl n w told no en (docOf j) o lv) (pcs_app hq (pcs_app (pcs_app hpC (pcs_of ⟨b1, b2, b3, hv, h4, trivial⟩)) (tQ_ok hG em (by rw [e1]; rfl) (by rw [e1])))) z2' hi em (hF _ _ (.dn (by rw [e1]) rfl (by rw [e1])))
    have b4 := eq_false_of_ne_true h4
    have hin : inB [2] (nuI (SS pk m i en.h) 27 3) = (2 == nuI (SS pk m i en.h) 27 3) := by
      unfold inB
      rw [List.contains_cons]
      simp [Bool.beq_comm]
    cases h5 : (2 == nuI (SS pk m i en.h) 27 3) with
    | false =>
      have e1 := kx 4 (by decide) (by unfold fltI; rw [if_neg h1, if_neg h2, if_neg h3, if_neg h4, if_neg (by rw [hin, h5]; decide)])
      exact fin_run Er4ook rfl (r_C5 l off pk h key st m ⟨0, q, kk, sl, n, w, oth, no, told, at', en, j, o, lv, L⟩ i kk sl n w told no en (docOf j) o lv) (pcs_app hq (pcs_app (pcs_app hpC (pcs_of ⟨b1, b2, b3, hv, b4, by omega, by omega, h5, trivial⟩)) (tQ_ok hG em (by rw [e1]; rfl) (by rw [e1])))) z2' hi em (hF _ _ (.dn (by rw [e1]) rfl (by rw [e1])))
    | true =>
      have hf : fltI (SS pk m i en.h) en.h [2] = 0 := by unfold fltI; rw [if_neg h1, if_neg h2, if_neg h3, if_neg h4, if_pos (by rw [hin, h5])]
      have e1 : rdSt ⟨0, q, kk, sl, n, w, oth, no, told, at', en, j, o, lv, L⟩ (M1 pk i m) = ⟨0, 1, kk, sl, n, w, oth, no, told, at', ⟨en.sl, SS pk m i en.h, en.h, true, false, 0, en.wd⟩, j, o, lv, L⟩ := by
        rw [e0, eX, hf]
        unfold rdEnter
        rw [hMc]
        simp only [hk, bne_self_eq_false, Bool.false_or, Bool.not_true, Bool.false_eq_true, if_false]
        rfl
      exact fin_run Er4ook rfl (r_C6 l off pk h key st m ⟨0, q, kk, sl, n, w, oth, no, told, at', en, j, o, lv, L⟩ i kk sl n w told no en (docOf j) o lv) (pcs_app hq (pcs_app (pcs_app hpC (pcs_of ⟨b1, b2, b3, hv, b4, by omega, by omega, h5, trivial⟩)) (tQ_ok hG em (by rw [e1]; rfl) (by rw [e1])))) z2' hi em (hF _ _ (.en (by rw [e1]) (by rw [e1]; rfl) rfl (by rw [e1]) (by rw [e1]; exact hs) (by rw [e1]; exact hk) (by rw [e1]; intro _; rfl)))
end
open Dec in
theorem round (c : Cfg) (l : List Int) (off : Nat) (pk : Pk) (h key st : Int) (hr : c.Right) (hg : pk.good) (hpl : pk.len ≤ 1000) (m : Mm) (r : Rd) (d : Dr) (ot : Ot) (i : Nat) (hm : Okm c m) (hgd : r.good) (hR : Rel c r d ot) (hlt : (i : Int) < lim st) (hi : i ≤ 1000) {Fin : Ex → Fr → Prop}
    (fin : ∀ m' r' d' ot', Okm c m' → r'.good → Rel c r' d' ot' → Fin .normal (fr l off pk h key st m' m' r' d' ot' ((i + 1 : Nat) : Int) [])) :
    CodeC Er4o 2 (bd fn lp) (fr l off pk h key st m m r d ot (i : Int) []) Fin := by
  obtain ⟨n1, n2, _⟩ := pk.do_ok (i : Int) hm.1
  have nM : Okm c (M1 pk i m) := ⟨n1, n2.trans hm.2.1, Pk.do_wf hg (i : Int) hm.2.2⟩
  have hG : rdGood r (M1 pk i m) := ⟨nM.1, nM.2.2, hgd⟩
  have nN : Okm c (rdMe r (M1 pk i m)) := ⟨(rdMe_ok hG).1, (rdMe_ok hG).2.1.trans nM.2.1, (rdMe_ok hG).2.2⟩
  have hF : Nxt c l off pk h key st i r (M1 pk i m) Fin := fun d' ot' hR' => fin _ _ _ _ nN (rdSt_good hG) hR'
  rcases hR with ⟨hp, hd, he⟩ | ⟨hp, hd, ho, hn, hs, hk, hx⟩ | ⟨hp, hd, ho⟩ | ⟨hp, hd, ho⟩ | ⟨hp, hd⟩
  · exact rd_7 hr hm hG hpl hlt hi hp hd he hF
  all_goals subst hd
  all_goals obtain ⟨ph, q, kk, sl, n, w, oth, no, told, at', en, j, o, lv, L⟩ := r
  all_goals simp only at hp
  · subst hp; subst ho
    exact rd_0 hn hs hk hx hr hm nM hG hpl hlt hi hF
  · subst ho
    rcases hp with rfl | rfl | rfl
    · exact rd_1 hr hm nM hG hpl hlt hi hF
    · exact rd_2 hr hm nM hG hpl hlt hi hF
    · exact rd_3 hr hm nM hG hpl hlt hi hF
  · rcases hp with rfl | rfl
    · exact rd_4 ho hr hm nM hG hpl hlt hi hF
    · exact rd_5 ho hr hm nM hG hpl hlt hi hF
  · subst hp
    exact rd_6 hr hm nM hG hpl hlt hi hF
open Dec in
theorem loop_C (c : Cfg) (l : List Int) (off : Nat) (pk : Pk) (h key st : Int) (hr : c.Right) (hg : pk.good) (hpl : pk.len ≤ 1000) (hst : st ≤ 200) (m0 : Mm) (r0 : Rd) (e0 : Dr) (hm : Okm c m0) (hgd : r0.good) (hR : Rel c r0 e0 .nil) :
    KC Er4o 2 .normal (.code (.loop (bd fn lp)) :: K) (fr l off pk h key st m0 m0 r0 e0 .nil 0 []) (Ev.Ends Er4o fn 2 (.bool true) (plHp l off pk)) := by
  have hlim : 0 ≤ lim st ∧ lim st ≤ 200 := by unfold lim; split <;> omega
  refine KC.loop (m0 := 2) (ι := Nat × Mm × Rd × Dr × Ot) (fun x => fr l off pk h key st x.2.1 x.2.1 x.2.2.1 x.2.2.2.1 x.2.2.2.2 (x.1 : Int) []) (fun x => (x.1 : Int) ≤ lim st ∧ Okm c x.2.1 ∧ x.2.2.1.good ∧ Rel c x.2.2.1 x.2.2.2.1 x.2.2.2.2) (fun x => (lim st).toNat - x.1)
    (fun ex fr => ex = .exit 0 ∧ fr = frX l off pk) (fun x hx => ?_) ?_ (0, m0, r0, e0, .nil) ⟨hlim.1, hm, hgd, hR⟩
  · obtain ⟨i, m, r, d, ot⟩ := x
    obtain ⟨hi, hm, hgd, hR⟩ := hx
    simp only at hi hm hgd hR ⊢
    by_cases hlt : (i : Int) < lim st
    · exact round c l off pk h key st hr hg hpl m r d ot i hm hgd hR hlt (by omega) fun m' r' d' ot' h1 h2 h3 => .inl ⟨rfl, (i + 1, m', r', d', ot'), rfl, ⟨by simp only; omega, h1, h2, h3⟩, by simp only; omega⟩
    · exact CodeC.of_run (fr := fr l off pk h key st m m r d ot (i : Int) [f]) Er4ook (p_end l off pk h key st m r i d ot) (pcs_of ⟨decide_eq_false hlt, trivial⟩) (nx_le ot) z2' (.inr ⟨by simp, rfl, rfl⟩)
  rintro ex fr ⟨rfl, rfl⟩
  refine KC.of_exec Er4ook (p_out l off pk) (pcs_of trivial) (Nat.le_refl _) z2' (KC.done ?_)
  cases pk <;> exact ⟨by simp, [.bool true], [], [0, 1], 2, by kernel_rfl, by simp, by kernel_rfl, rfl, z2'⟩
open Dec in
theorem loop_N (c : Cfg) (l : List Int) (off : Nat) (pk : Pk) (h key st e : Int) (hr : c.Right) (hg : pk.good) (hpl : pk.len ≤ 1000) (hst : st ≤ 200) (m0 : Mm) (r0 : Rd) (hm : Okm c m0) (hgd : r0.good) (hph : r0.ph = 7) (he : r0.no = e) :
    KC Er4o 2 .normal (.code (.loop (bd fn lp)) :: K) (frN l off pk h key st m0 m0 r0 (d0 e) 0 []) (Ev.Ends Er4o fn 2 (.bool true) (plHp l off pk)) := by
  have hlim : 0 ≤ lim st ∧ lim st ≤ 200 := by unfold lim; split <;> omega
  refine KC.loop (m0 := 2) (ι := Nat × Mm) (fun x => frN l off pk h key st x.2 x.2 r0 (d0 e) (x.1 : Int) []) (fun x => (x.1 : Int) ≤ lim st ∧ Okm c x.2) (fun x => (lim st).toNat - x.1)
    (fun ex fr => ex = .exit 0 ∧ fr = frX l off pk) (fun x hx => ?_) ?_ (0, m0) ⟨hlim.1, hm⟩
  · obtain ⟨i, m⟩ := x
    obtain ⟨hi, hm⟩ := hx
    simp only at hi hm ⊢
    by_cases hlt : (i : Int) < lim st
    · obtain ⟨n1, n2, _⟩ := pk.do_ok (i : Int) hm.1
      have nM : Okm c (M1 pk i m) := ⟨n1, n2.trans hm.2.1, Pk.do_wf hg (i : Int) hm.2.2⟩
      have hG : rdGood r0 (M1 pk i m) := ⟨nM.1, nM.2.2, hgd⟩
      obtain ⟨s1, s2⟩ := rd_dn (o := r0) (by show Nat.beq r0.ph 7 = true; rw [hph]; rfl) (M1 pk i m)
      refine CodeC.of_run (fr := frN l off pk h key st m m r0 (d0 e) (i : Int) [t, Dec.l, Dec.l, f, f]) Er4ook (r_N l off pk h key st m r0 i e) (pcs_app (hQ_ok hr hm hG hpl hlt) (tQ_ok hG (by rw [s2]) (by rw [s1]; show Nat.beq r0.ph 7 = true; rw [hph]; rfl) (by rw [s1]; exact he))) (show 2 ≤ 22 by omega) z2' (.inl ⟨rfl, (i + 1, M1 pk i m), ?_, ⟨by simp only; omega, nM⟩, by simp only; omega⟩)
      rw [w64_succ i (by omega), s1, s2]
      rfl
    · exact CodeC.of_run (fr := frN l off pk h key st m m r0 (d0 e) (i : Int) [f]) Er4ook (p_endN l off pk h key st m r0 i (d0 e)) (pcs_of ⟨decide_eq_false hlt, trivial⟩) (show 2 ≤ 22 by omega) z2' (.inr ⟨by simp, rfl, rfl⟩)
  rintro ex fr ⟨rfl, rfl⟩
  refine KC.of_exec Er4ook (p_out l off pk) (pcs_of trivial) (Nat.le_refl _) z2' (KC.done ?_)
  cases pk <;> exact ⟨by simp, [.bool true], [], [0, 1], 2, by kernel_rfl, by simp, by kernel_rfl, rfl, z2'⟩
open Dec in
theorem main (c : Cfg) (l : List Int) (off cap : Nat) (pk : Pk) (h key st : Int) (hr : c.Right) (hlen : (l.length : Int) = c.len) (hwf : WfW l) (hg : pk.good) (hh : Wd h) :
    CallC Tryz.prog fid (A c l off cap pk h key st) (plHp l off pk) (.bool true) (plHp l off pk) := by
  have hq : ∀ p ∈ q0 c l off h key, p := pcs_of ⟨⟨hr, hlen, rfl, rfl⟩, isNew_ok c hh key, trivial⟩
  by_cases hst : st > 200
  · exact CallC.of_call Er4ook (p_long c l off cap pk h key st) (pcs_app hq (pcs_of ⟨decide_eq_true hst, trivial⟩)) rfl z2'
  have bst : decide (st > 200) = false := decide_eq_false hst
  rcases big_or pk with ⟨of2, cap2, rows, rfl, hbig⟩ | ⟨hbig, hpl⟩
  · exact CallC.of_call Er4ook (p_big c l off cap h key st of2 cap2 rows) (pcs_app hq (pcs_of ⟨bst, decide_eq_true (by omega), trivial⟩)) rfl z2'
  have m0 : Okm c (newM c l) := ⟨newM_ok hlen, rfl, hwf⟩
  have hgd := rdOf_good c hh key
  have hin : ∀ {ps : List Prop} {dn : Bool} {e : Int}, (∀ p ∈ ps, p) → (rdOf c h key).dn = dn → (rdOf c h key).no = e → ∀ p ∈ inQ c l off pk h key st ps dn e, p := fun hps h1 h2 => by
    subst h1; subst h2
    exact pcs_app hq (List.forall_mem_cons.2 ⟨bst, pcs_app hbig (List.forall_mem_cons.2 ⟨hh, pcs_app hps (pcs_of ⟨rdP_ok _ _, qAsk_ok hgd, bne_self_eq_false _, rdP_ok _ _, qAsk_ok hgd, bne_self_eq_false _, trivial⟩)⟩)⟩)
  refine CallC.of_body (E := Er4o) (ds := []) (fn := fn) 104 (by kernel_rfl) (by kernel_rfl) (by kernel_rfl) (by kernel_rfl) ?_
  have hno : (rdOf c h key).no = rdNewE c h key := rfl
  have hdn : rdNewE c h key ≠ 0 → (rdOf c h key).ph = 7 := fun hz => if_neg hz
  have hd7 : ∀ {e : Int}, rdNewE c h key = e → e ≠ 0 → (rdOf c h key).dn = true := fun he hz => by
    show Nat.beq (rdOf c h key).ph 7 = true
    rw [hdn (by rw [he]; exact hz)]
    rfl
  by_cases k1 : key < 0
  · have he : rdNewE c h key = 5 := by unfold rdNewE; rw [if_pos k1]
    refine KC.of_exec (fr := start c l off cap pk h key st [Dec.l, Dec.l, f, dsK pk, t, Dec.l, f, f]) Er4ook (b_k0 c l off cap pk h key st) (hin (pcs_of ⟨decide_eq_true k1, trivial⟩) (hd7 he (by decide)) (hno.trans he)) (Nat.le_refl _) z2' ?_
    exact loop_N c l off pk h key st 5 hr hg (by omega) (by omega) _ _ m0 hgd (hdn (by rw [he]; decide)) (hno.trans he)
  by_cases k2 : key ≥ c.k
  · have he : rdNewE c h key = 5 := by unfold rdNewE; rw [if_neg k1, if_pos k2]
    refine KC.of_exec (fr := start c l off cap pk h key st [Dec.l, Dec.l, f, dsK pk, f, t, f, f]) Er4ook (b_k1 c l off cap pk h key st) (hin (pcs_of ⟨decide_eq_false k1, decide_eq_true k2, trivial⟩) (hd7 he (by decide)) (hno.trans he)) (Nat.le_refl _) z2' ?_
    exact loop_N c l off pk h key st 5 hr hg (by omega) (by omega) _ _ m0 hgd (hdn (by rw [he]; decide)) (hno.trans he)
  cases hk : ofOk h c.s with
  | false =>
    have he : rdNewE c h key = 2 := by unfold rdNewE; rw [if_neg k1, if_neg k2, hk]; rfl
    refine KC.of_exec (fr := start c l off cap pk h key st [Dec.l, Dec.l, f, dsK pk, f, f, t, f, f]) Er4ook (b_s c l off cap pk h key st) (hin (pcs_of ⟨decide_eq_false k1, decide_eq_false k2, by rw [hk]; rfl, trivial⟩) (hd7 he (by decide)) (hno.trans he)) (Nat.le_refl _) z2' ?_
    exact loop_N c l off pk h key st 2 hr hg (by omega) (by omega) _ _ m0 hgd (hdn (by rw [he]; decide)) (hno.trans he)
  | true =>
    have he : rdNewE c h key = 0 := by unfold rdNewE; rw [if_neg k1, if_neg k2, hk]; rfl
    have eR : rdOf c h key = ⟨0, 1, key, tkS h, 0, 0, 0, 0, 0, 0, ⟨tkS h, 0, h, false, false, 0, 0⟩, ⟨0, 0, 0, 0, lookF, 0, 0⟩, ⟨0, 0, 0, 0, false, false⟩, ⟨0, 0, 0, false, false⟩, []⟩ := by
      unfold rdOf
      rw [he, hk, if_pos rfl]
      rfl

    refine KC.of_exec (fr := start c l off cap pk h key st [Dec.l, Dec.l, f, dsK pk, f, f, f, f, f]) Er4ook (b_ok c l off cap pk h key st) (hin (pcs_of ⟨decide_eq_false k1, decide_eq_false k2, by rw [hk]; rfl, trivial⟩) (by rw [eR]; rfl) (by rw [eR])) (Nat.le_refl _) z2' ?_
    have hfr : fr l off pk h key st (newM c l) (newM c l) (rdOf c h key) (d1 c h key) .nil 0 [] = fr l off pk h key st (newM c l) (newM c l) (rdOf c h key) (dOf (rdOf c h key) 0) .nil 0 [] := by
      rw [eR]
      unfold d1
      rw [hk, if_pos rfl]
      rfl
    rw [hfr]
    exact loop_C c l off pk h key st hr hg (by omega) (by omega) _ _ _ m0 hgd (.en (by rw [eR]) rfl rfl (by rw [eR]) (by rw [eR]) (by rw [eR]; exact hk) (by rw [eR]; intro x; cases x))
theorem walk (c : Cfg) (v : Value) (l : List Int) (zs : List Int) (sv : Value) (rows : List (List Int)) (w : World) (hl : RowIn .u64 w v l) (hz : zs.length = 3) (hk : ∀ i, i < 3 → (Lit.int (([.u64, .i64, .i64] : List IntKind).getD i .i64) (zs.getD i 0)).wf = true) (hs : RowR pkK w sv rows) :
    Calls Tryz.prog fid #[c.v, v, .agg ⟨rowV [.u64, .i64, .i64] zs ++ [sv]⟩] w fun e w1 => e = .returned (.bool true) ∧ Below w.heap.size w w1 := by
  obtain ⟨h, key, st, rfl⟩ : ∃ a b d, zs = [a, b, d] := by
    match zs, hz with
    | [a, b, d], _ => exact ⟨a, b, d, rfl⟩
  have hh : Wd h := bounds_u64 (hk 0 (by decide))
  exact law_play2 (E' := Er4o) Er4ok rfl hl hs (fun hr hlen off cap pk hpk => ⟨_, main c l off cap pk h key st hr hlen (row_wf hl) (good_of hs hpk) hh⟩)
    (fun hr a m cap pk => ⟨_, _, p_nr c cap pk h key st a m, pcs_of ⟨by simp [rightB, hr], isNew_ok c hh key, trivial⟩⟩)
    (fun hr a m cap pk hlen => ⟨_, _, p_nl c cap pk h key st a m, pcs_of ⟨by simp [rightB, hr], hr, by simpa using hlen, isNew_ok c hh key, trivial⟩⟩)
end Go.Proofs.YtmpidecpfcikoaaGreat.ReadStepsDone
