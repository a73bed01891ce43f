/- A frame in which two names stand for one row that is only read. -/
import Derived.Test.YtocfhiafegkfkaaGreatEvStack
namespace Go.Proofs.YtocfhiafegkfkaaGreat.Ev
open Go Go.RowKit

/-- What a call comes to that is handed rows as views, in any heap in which these rows stand. -/
theorem reads_ok {P : Program} {f : FuncId} {args : List Value} {hp : Hp} {v : Value} {pc : List Prop} (hent : Enters P f) (hv : clo v = true) (L : List Nat)
    (H : (∀ p ∈ pc, p) → ∀ (S : Nat → Prop) (ρ : Nat → Nat) (cargs : List Value), VRL S ρ args cargs → ∃ args0 hp0 out0, CallC P f args0 hp0 v out0 ∧ cargs = args0.map (ren fun k => ρ (L.getD k 0)) ∧ (∀ k ∈ nmL args0, k < hp0.next) ∧
      ∀ n b, hp0.get n = some b → n < hp0.next ∧ b.isV = true ∧ ∃ b', hp.get (L.getD n 0) = some b' ∧ b'.pres = true ∧ ∀ ρ' o, b'.sat ρ' o → ∀ ρ'', b.sat ρ'' o) (ds : List Dec) : CallOk P f args hp ⟨v, hp, ds, pc⟩ := by
  refine ⟨Keep.refl _, hent, fun hpc S ρ w cargs hargs hH _ => ?_⟩
  obtain ⟨args0, hp0, out0, hC, hc, hnm, hblk⟩ := H hpc S ρ cargs hargs
  refine (hC.2 (fun k => ρ (L.getD k 0)) w cargs (fun ρ' ha => ?_) ⟨fun ρ' _ n b hb _ => ?_, fun n b hb => (hblk n b hb).1, fun n m b c hb hc _ _ _ => .inr ⟨(hblk n b hb).2.1, (hblk m c hc).2.1⟩⟩).mono fun e w1 he => ?_
  · rw [hc, ← renL_map, ← renL_map]
    exact (renL_congr args0 fun k hk => ha k (hnm k hk)).symm
  · obtain ⟨_, _, b', hb', hbp, hs⟩ := hblk n b hb
    obtain ⟨o, ho, hso⟩ := hH.sat ρ (Ag.refl _ _) _ _ hb' hbp
    exact ⟨o, ho, hs ρ o hso ρ'⟩
  · obtain ⟨u, ρ1, rfl, _, _, hu, hfr⟩ := he
    have hu' : u = v := by rw [hu.self, ren_clo ρ1 hv]
    subst hu'
    have hold : ∀ k, k < w.heap.size → w1.heap[k]? = w.heap[k]? := fun k hk => hfr.old k hk fun n b hb hv' => by
      rw [(hblk n b hb).2.1] at hv'; cases hv'
    refine ⟨u, rfl, ρ, Ag.refl _ _, ⟨fun ρ' ha n b hb hbp => ?_, fun n b hb => .inl (hH.dom n b hb), hH.inj⟩, VR.clo hv, ⟨hfr.os, hfr.tape, hfr.output, hfr.size, fun k hk _ => hold k hk, fun n b hb hbp => .inl ⟨n, b, hb, hbp, rfl, rfl⟩⟩⟩
    obtain ⟨o, ho, hs⟩ := hH.sat ρ' (fun k hk => ha k (.inl hk)) n b hb hbp
    exact ⟨o, by rw [hold _ (hH.lt hb hbp)]; exact ho, hs⟩
/-- A row of numbers, seen from where it begins. -/
theorem rowI_view {b : Blk} {so : Nat} {k : IntKind} {l : List Int} {q : Prop} (h : rowI so b = some (k, l, q)) (hq : q) (n : Nat) {ty : TypeId} {ρ' : Nat → Nat} {o : Obj} (hs : b.sat ρ' o) (ρ'' : Nat → Nat) : (Blk.view so (.ints k (l.take n) ty)).sat ρ'' o := by
  obtain ⟨cells, ty', fr, rfl, hc⟩ := Blk.sat_row h hq hs
  refine ⟨cells, ty', fr, rfl, fun j v hv => ?_⟩
  simp only [Blk.rowW, List.getElem?_map, List.getElem?_take] at hv
  split at hv
  · exact hc j v (by rw [List.getElem?_map]; exact hv)
  · cases hv
end Go.Proofs.YtocfhiafegkfkaaGreat.Ev
namespace Go.Proofs.YtocfhiafegkfkaaGreat.Ev
open Go Go.RowKit

theorem CallC.alias {P : Program} {f : FuncId} {args : List Value} {hp hp1 hp1' : Hp} {v v' : Value} (h : CallC P f args hp v hp1) (hvw : ∀ n b, hp.get n = some b → b.isV = true) (L : List Nat) (hid : ∀ k, k < hp.next → L.getD k 0 = k) (hv : v = rn (fun k => L.getD k 0) v') (hnm : ∀ k ∈ nm v', k < hp1'.next)
    (hblk : ∀ n b', hp1'.get n = some b' → n < hp1'.next ∧ b'.isV = true ∧ ∃ b, hp1.get (L.getD n 0) = some b ∧ b.pres = true ∧ ∀ ρ o, b.sat ρ o → ∀ ρ'', b'.sat ρ'' o) : CallC P f args hp v' hp1' := by
  refine ⟨h.1, fun ρ w cargs ha hH => (h.2 ρ w cargs ha hH).mono fun e w1 he => ?_⟩
  obtain ⟨u, ρ1, rfl, hag, hH1, hV, hF⟩ := he
  refine ⟨u, fun k => ρ1 (L.getD k 0), rfl, fun k hk => ?_, ⟨fun ρ' _ n b hb _ => ?_, fun n b hb => (hblk n b hb).1, fun n m b c hb hc _ _ _ => .inr ⟨(hblk n b hb).2.1, (hblk m c hc).2.1⟩⟩, fun ρ' ha' => ?_, ⟨hF.os, hF.tape, hF.output, hF.size, hF.old, fun n b hb _ => ?_⟩⟩
  · simp only [hid k hk]
    exact hag k hk
  · obtain ⟨_, _, b0, hb0, hbp, hs⟩ := hblk n b hb
    obtain ⟨o, ho, hso⟩ := hH1.sat ρ1 (Ag.refl _ _) _ _ hb0 hbp
    exact ⟨o, ho, hs ρ1 o hso ρ'⟩
  · rw [hV.self, hv, ren_rn]
    exact ren_congr v' fun k hk => (ha' k (hnm k hk)).symm
  · obtain ⟨_, hb', b0, hb0, hbp, _⟩ := hblk n b hb
    rcases hF.new _ b0 hb0 hbp with ⟨m, c, hm, hcp, _, e⟩ | e
    · exact .inl ⟨m, c, hm, hcp, by rw [hb', hvw m c hm], e⟩
    · exact .inr e
/-- A row that is one's own, seen as one that is only read. -/
theorem own_view {k : IntKind} {l : List Int} {ty : TypeId} {c : Nat} (ρ : Nat → Nat) (o : Obj) (h : (Blk.own (.ints k l ty) c).sat ρ o) (ρ'' : Nat → Nat) : (Blk.view 0 (.ints k l ty)).sat ρ'' o := by
  have h1 : rowI 0 (Blk.own (.ints k l ty) c) = some (k, l, 0 = 0) := rfl
  have := rowI_view h1 rfl l.length (ty := ty) h ρ''
  rwa [List.take_length] at this
theorem view_view {k : IntKind} {l : List Int} {ty : TypeId} {off : Nat} (ρ : Nat → Nat) (o : Obj) (h : (Blk.view off (.ints k l ty)).sat ρ o) (ρ'' : Nat → Nat) : (Blk.view off (.ints k l ty)).sat ρ'' o := h
/-- Of rows that were made, it may be told only what is read in them. -/
theorem CallC.soft {P : Program} {f : FuncId} {args : List Value} {hp hp1 hp1' : Hp} {v : Value} (h : CallC P f args hp v hp1) (hvw : ∀ n b, hp.get n = some b → b.isV = true) (hnext : hp1'.next = hp1.next)
    (hblk : ∀ n b', hp1'.get n = some b' → ∃ b, hp1.get n = some b ∧ (b' = b ∨ (b.isV = false ∧ b'.isV = true ∧ ∀ ρ o, b.sat ρ o → ∀ ρ'', b'.sat ρ'' o))) : CallC P f args hp v hp1' := by
  refine ⟨h.1, fun ρ w cargs ha hH => (h.2 ρ w cargs ha hH).mono fun e w1 he => ?_⟩
  obtain ⟨u, ρ1, rfl, hag, hH1, hV, hF⟩ := he
  refine ⟨u, ρ1, rfl, hag, ⟨fun ρ' ha' n b hb hbp => ?_, fun n b hb => ?_, fun n m b c hb hc hbp hcp he => ?_⟩, by rw [hnext]; exact hV, ⟨hF.os, hF.tape, hF.output, hF.size, hF.old, fun n b hb hbp => ?_⟩⟩
  · obtain ⟨b0, hb0, hor⟩ := hblk n b hb
    obtain ⟨o, ho, hso⟩ := hH1.sat ρ' (by rw [hnext] at ha'; exact ha') _ _ hb0 (by
      rcases hor with rfl | ⟨h, _, _⟩
      · exact hbp
      · exact Blk.pres_of h)
    refine ⟨o, ho, ?_⟩
    rcases hor with rfl | ⟨_, _, hs⟩
    · exact hso
    · exact hs ρ' o hso ρ'
  · obtain ⟨b0, hb0, _⟩ := hblk n b hb
    rw [hnext]
    exact hH1.dom _ _ hb0
  · obtain ⟨b0, hb0, hor⟩ := hblk n b hb
    obtain ⟨c0, hc0, hor'⟩ := hblk m c hc
    rcases hH1.inj _ _ _ _ hb0 hc0 (by
      rcases hor with rfl | ⟨h, _, _⟩
      · exact hbp
      · exact Blk.pres_of h) (by
      rcases hor' with rfl | ⟨h, _, _⟩
      · exact hcp
      · exact Blk.pres_of h) he with h | ⟨h1, h2⟩
    · exact .inl h
    · rcases hor with rfl | ⟨h3, _, _⟩
      · rcases hor' with rfl | ⟨h4, _, _⟩
        · exact .inr ⟨h1, h2⟩
        · rw [h4] at h2; cases h2
      · rw [h3] at h1; cases h1
  · obtain ⟨b0, hb0, hor⟩ := hblk n b hb
    rcases hor with rfl | ⟨h3, _, _⟩
    · exact hF.new _ _ hb0 hbp
    · rcases hF.new _ _ hb0 (Blk.pres_of h3) with ⟨m, c, hm, _, hc, _⟩ | e
      · rw [hvw m c hm, h3] at hc; cases hc
      · exact .inr e
end Go.Proofs.YtocfhiafegkfkaaGreat.Ev
namespace Go.Proofs.YtocfhiafegkfkaaGreat.Ev
open Go Go.RowKit

def vdup (L : List Nat) : List (Nat × Blk) → Bool
  | [] => true
  | (n, b) :: r => (r.all fun p => !(Nat.beq (L.getD n 0) (L.getD p.1 0)) || (b.isV && p.2.isV)) && vdup L r
theorem vdup_mem {L : List Nat} : ∀ {l : List (Nat × Blk)}, vdup L l = true → ∀ n m b c, (n, b) ∈ l → (m, c) ∈ l → L.getD n 0 = L.getD m 0 → (n, b) = (m, c) ∨ (b.isV = true ∧ c.isV = true)
  | [], _, n, m, b, c, h, _, _ => by simp at h
  | (k, d) :: r, h, n, m, b, c, hn, hm, he => by
    simp only [vdup, Bool.and_eq_true, List.all_eq_true] at h
    have key : ∀ (p : Nat × Blk), p ∈ r → L.getD k 0 = L.getD p.1 0 → d.isV = true ∧ p.2.isV = true := fun p hp e => by
      have := h.1 p hp
      rw [e, Nat.beq_refl] at this
      simpa using this
    rcases List.mem_cons.1 hn with e1 | hn'
    · injection e1 with e1 e2
      subst e1; subst e2
      rcases List.mem_cons.1 hm with e1 | hm'
      · exact .inl e1.symm
      · exact .inr (key (m, c) hm' he)
    · rcases List.mem_cons.1 hm with e1 | hm'
      · injection e1 with e1 e2
        subst e1; subst e2
        have := key (n, b) hn' he.symm
        exact .inr ⟨this.2, this.1⟩
      · exact vdup_mem h.2 n m b c hn' hm' he
theorem rnL_get (σ : Nat → Nat) : ∀ (l : List Value) (t : Nat), (rnL σ l).getD t undef = rn σ (l.getD t undef)
  | [], t => rfl
  | v :: l, 0 => rfl
  | v :: l, t + 1 => by
    have := rnL_get σ l t
    simpa [rnL] using this
theorem nmL_mem : ∀ {l : List Value} {t k : Nat}, k ∈ nm (l.getD t undef) → k ∈ nmL l
  | [], t, k, h => by simp [undef, nm, nmA, nmL] at h
  | v :: l, 0, k, h => by
    simp only [nmL, List.mem_append]
    exact .inl h
  | v :: l, t + 1, k, h => by
    simp only [nmL, List.mem_append]
    exact .inr (nmL_mem (t := t) (by simpa using h))
theorem alias_fr {L : List Nat} {G F : Fr} (htm : G.tm = rnL (fun k => L.getD k 0) F.tm) (hbnd : allLt F.hp.next (nmL F.tm ++ tellers.tellB F.hp.blks) = true) (hkeys : keysIn F.hp.next F.hp.blks = true) (hin : laysIn G.hp (fun k => L.getD k 0) F.hp.blks) (hv : vdup L F.hp.blks = true) {S : Nat → Prop} {ρ : Nat → Nat} {a : Act} {w : World} (hf : FrR S ρ G.tm G.hp a w) :
    FrR (fun k => k < F.hp.next) (fun k => ρ (L.getD k 0)) F.tm F.hp a w ∧ FR ρ (fun k => ρ (L.getD k 0)) G.hp F.hp w w := by
  have hb : ∀ n b, F.hp.get n = some b → n < F.hp.next ∧ G.hp.get (L.getD n 0) = some (b.rn fun k => L.getD k 0) ∧ ∀ k ∈ b.nm, k < F.hp.next := fun n b h => by
    have hm := lookB_mem (show lookB n F.hp.blks = some b from h)
    exact ⟨(keysIn_lt hkeys n b hm).1, laysIn_get hin n b h, fun k hk => allLt_mem hbnd k (List.mem_append.2 (.inr (tellB_blk hm hk)))⟩
  have hlen : F.tm.length = G.tm.length := by
    rw [htm, rnL_map, List.length_map]
  refine ⟨⟨by rw [hlen]; exact hf.size, fun t => ?_, ⟨fun ρ' ha n b h hbp => ?_, fun n b h => (hb n b h).1, fun n m b c h1 h2 hbp hcp he => ?_⟩, hf.defers⟩, ⟨rfl, rfl, rfl, Nat.le_refl _, fun _ _ _ => rfl, fun n b h hbp => ?_⟩⟩
  · have ht := hf.tmp t
    rw [htm, rnL_get] at ht
    rcases ht with h | h
    · refine .inl ?_
      cases hv : F.tm.getD t undef with
      | string s => rfl
      | pointer a => rw [hv] at h; cases a <;> simp [rn, isDead] at h
      | slice a n c =>
        rw [hv] at h
        cases a with
        | none => simp [rn, isDead] at h
        | some x =>
          obtain ⟨b, o, s⟩ := x
          cases s <;> simp [rn, isDead] at h
      | _ => rw [hv] at h; simp [rn, isDead] at h
    · refine .inr fun ρ' ha => ?_
      rw [h.self, ren_rn]
      exact (ren_congr _ fun k hk => (ha k (allLt_mem hbnd k (List.mem_append.2 (.inl (nmL_mem hk)))))).symm
  · obtain ⟨h1, h2, h3⟩ := hb n b h
    obtain ⟨o, ho, hs⟩ := hf.heap.sat ρ (Ag.refl _ _) _ _ h2 (by rw [Blk.rn_pres]; exact hbp)
    exact ⟨o, ho, Blk.sat_congr (ρ := fun k => ρ (L.getD k 0)) (fun k hk => ha k (h3 k hk)) (Blk.sat_rn.1 hs)⟩
  · obtain ⟨k1, q1, _⟩ := hb n b h1
    obtain ⟨k2, q2, _⟩ := hb m c h2
    rcases hf.heap.inj _ _ _ _ q1 q2 (by rw [Blk.rn_pres]; exact hbp) (by rw [Blk.rn_pres]; exact hcp) he with e | e
    · rcases vdup_mem hv n m b c (lookB_mem h1) (lookB_mem h2) e with e' | e'
      · injection e' with e' _
        exact .inl e'
      · exact .inr e'
    · rw [Blk.rn_isV, Blk.rn_isV] at e
      exact .inr e
  · obtain ⟨_, h2, _⟩ := hb n b h
    exact .inl ⟨_, _, h2, by rw [Blk.rn_pres]; exact hbp, Blk.rn_isV _ _, rfl⟩
theorem KC.alias {E : Env} {m0 : Nat} {ex : Ex} {K : List Kt} {G F : Fr} {Fin : Ex → Fr → Prop} (L : List Nat) (hC : KC E m0 ex K F Fin) (htm : G.tm = rnL (fun k => L.getD k 0) F.tm) (hbnd : allLt F.hp.next (nmL F.tm ++ tellers.tellB F.hp.blks) = true) (hkeys : keysIn F.hp.next F.hp.blks = true) (hin : laysIn G.hp (fun k => L.getD k 0) F.hp.blks) (hv : vdup L F.hp.blks = true) (hns : ∀ k, k < m0 → L.getD k 0 = k) : KC E m0 ex K G Fin := by
  intro ρ a w Q hf hQ
  obtain ⟨h2, h3⟩ := alias_fr htm hbnd hkeys hin hv hf
  exact hC _ a w Q h2 fun ex fr1 ρ1 a1 w1 hF hm hf1 hfr => hQ ex fr1 ρ1 a1 w1 hF (fun k hk => by rw [hm k hk, hns k hk]) hf1 (h3.trans hfr)
end Go.Proofs.YtocfhiafegkfkaaGreat.Ev
