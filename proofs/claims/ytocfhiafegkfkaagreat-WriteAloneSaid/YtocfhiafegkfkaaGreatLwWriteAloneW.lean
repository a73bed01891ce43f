/- What 'WriteAlone' comes to, of any input. -/
import Derived.Test.YtocfhiafegkfkaaGreatLwWriteAloneV
namespace Go.Proofs.YtocfhiafegkfkaaGreat.WriteAloneDone
open Go Go.Proofs Go.Proofs.YtocfhiafegkfkaaGreat.Ev Go.Proofs.YtocfhiafegkfkaaGreat.Ct
open Go.RowKit

theorem z2' {tl : List Nat} : ∀ k, k < 2 → (0 :: 1 :: tl : List Nat).getD k 0 = k := fun k hk => by
  match k, hk with
  | 0, _ => rfl
  | 1, _ => rfl
theorem kv_eq {c : Cfg} {l : List Int} {off : Nat} {kd x : Int} (h : 0 ≤ cellIx c kd x) : kv c l off kd x = getW l (cellIx c kd x) := by
  unfold kv oI
  rw [addN_eq, mulN_eq, getW_in h]
  congr 1
  omega
theorem aV_ok {c : Cfg} {l : List Int} {off : Nat} {kd x : Int} (hr : c.Right) (hl : (l.length : Int) = c.len) (h0 : 0 ≤ cellIx c kd x) (h1 : cellIx c kd x < c.len) : ∀ p ∈ aV c l off kd x, p :=
  pcs_of ⟨hr, h0, by omega, by rw [addN_eq]; omega, by unfold oI; rw [addN_eq, mulN_eq]; omega, trivial⟩
theorem take_any {L : List Int} {k : Nat} (hk : k < L.length) (p : Int → Bool) : (L.take (k + 1)).any p = ((L.take k).any p || p (xI L k)) := by
  have : L.take (k + 1) = L.take k ++ [xI L k] := by
    rw [List.take_add_one, List.getElem?_eq_getElem hk]
    show L.take k ++ [L[k]] = L.take k ++ [L.getD (addN 0 (mulN k 1)) 0]
    rw [addN_eq, mulN_eq, show 0 + k * 1 = k by omega, List.getD_eq_getElem?_getD, List.getElem?_eq_getElem hk]
    rfl
  rw [this, List.any_append]
  simp
/-- What is told behind some of the rivals. -/
def eAt (c : Cfg) (l L : List Int) (n : Int) (k : Nat) : Int := if (L.take k).any (fun x => !gnW c n l x) = true then 8 else 0
open Dec in
section
variable {c : Cfg} {l : List Int} {off cap : Nat} {pk : Pk} {h key st : Int} {o : Wt} {m : Mm}
theorem round (hr : c.Right) (hlen : (l.length : Int) = c.len) (hwf : WfW l) {L : List Int} {sl w n : Int} (hL : ∀ x ∈ L, 0 ≤ x) (hL12 : L.length ≤ 12) (k : Nat) (hk : k < L.length) :
    CodeC Eg 2 (bd fn lp) (fr c l off cap pk h key st o m L (eAt c l L n k) sl w n (k : Int) []) (fun ex G => ex = .normal ∧ G = fr c l off cap pk h key st o m L (eAt c l L n (k + 1)) sl w n ((k + 1 : Nat) : Int) []) := by
  have es : w64 ((k : Int) + 1) = ((k + 1 : Nat) : Int) := by rw [w64_in (by omega) (by omega)]; omega
  have hx : 0 ≤ xI L k := by
    show 0 ≤ L.getD (addN 0 (mulN k 1)) 0
    rw [addN_eq, mulN_eq, show 0 + k * 1 = k by omega]
    exact hL _ (by rw [List.getD_eq_getElem?_getD, List.getElem?_eq_getElem hk]; exact List.getElem_mem hk)
  have hh : ∀ p ∈ hV L k, p := pcs_of ⟨decide_eq_true (by omega), by omega, by omega, by rw [addN_eq, mulN_eq]; omega, trivial⟩
  have nx : ∀ {ds : List Dec} {e' : Int} {pc : List Prop}, run Eg 12 (bd fn lp) (rng 0 23) live 2 [] (fr c l off cap pk h key st o m L (eAt c l L n k) sl w n (k : Int) ds) = some (.normal, fr c l off cap pk h key st o m L e' sl w n (w64 ((k : Int) + 1)) [], pc) → eAt c l L n (k + 1) = e' → (∀ p ∈ pc, p) → CodeC Eg 2 (bd fn lp) (fr c l off cap pk h key st o m L (eAt c l L n k) sl w n (k : Int) []) (fun ex G => ex = .normal ∧ G = fr c l off cap pk h key st o m L (eAt c l L n (k + 1)) sl w n ((k + 1 : Nat) : Int) []) := fun {ds e' pc} hrun he hpc => by
    subst he
    rw [es] at hrun
    exact CodeC.of_run (fr := fr c l off cap pk h key st o m L (eAt c l L n k) sl w n (k : Int) ds) Egok hrun hpc (show 2 ≤ 23 by omega) z2' ⟨rfl, rfl⟩
  have ha := take_any hk (fun x => !gnW c n l x)
  by_cases hs : xI L k < c.s
  · have b4 := ix_slot_rng hr (k := 4) (.inl rfl) hx hs
    have b6 := ix_slot_rng hr (k := 6) (.inr (.inr (.inl rfl))) hx hs
    have e4 : kv c l off 4 (xI L k) = sWd c l (xI L k) := kv_eq b4.1
    have e6 : kv c l off 6 (xI L k) = nWd c l (xI L k) := kv_eq b6.1
    have hg : ∀ b, (!gnW c n l (xI L k)) = b → ∀ p ∈ gV c l L off n k b, p := fun b hb => pcs_app hh (List.forall_mem_cons.2 ⟨decide_eq_true hs, pcs_app (aV_ok hr hlen b4.1 b4.2) (pcs_app (aV_ok hr hlen b6.1 b6.2) (pcs_of ⟨by rw [e4]; exact hwf.sWd _, by rw [e4, e6]; exact hb, trivial⟩))⟩)
    cases hb : (!gnW c n l (xI L k)) with
    | true =>
      refine nx (r_c c l L off cap pk h key st o m _ sl w n k) ?_ (hg true hb)
      unfold eAt
      rw [ha, hb, Bool.or_true, if_pos rfl]
    | false =>
      refine nx (r_g c l L off cap pk h key st o m _ sl w n k) ?_ (hg false hb)
      unfold eAt
      rw [ha, hb, Bool.or_false]
  · refine nx (r_o c l L off cap pk h key st o m _ sl w n k) ?_ (pcs_app hh (pcs_of ⟨decide_eq_false hs, trivial⟩))
    unfold eAt
    rw [ha, gn_over (by omega), Bool.not_true, Bool.or_false]
theorem loop_C (hr : c.Right) (hlen : (l.length : Int) = c.len) (hwf : WfW l) {L : List Int} {sl w n : Int} (hL : ∀ x ∈ L, 0 ≤ x) (hL12 : L.length ≤ 12) {Fin : Ex → Fr → Prop} (hT : KC Eg 2 (.exit 0) K (frX c l off cap pk h key st o m (eAt c l L n L.length) sl w []) Fin) :
    KC Eg 2 .normal (.code (.loop (bd fn lp)) :: K) (fr c l off cap pk h key st o m L 0 sl w n ((0 : Nat) : Int) []) Fin := by
  have e0 : (0 : Int) = eAt c l L n 0 := rfl
  refine KC.loop (m0 := 2) (ι := Nat) (fun x => fr c l off cap pk h key st o m L (eAt c l L n x) sl w n (x : Int) []) (fun x => x ≤ L.length) (fun x => L.length - x)
    (fun ex fr => ex = .exit 0 ∧ fr = frX c l off cap pk h key st o m (eAt c l L n L.length) sl w []) (fun k hk => ?_) ?_ 0 (Nat.zero_le _)
  · by_cases hlt : k < L.length
    · exact (round hr hlen hwf hL hL12 k hlt).mono fun ex G hG => .inl ⟨hG.1, k + 1, hG.2, hlt, by omega⟩
    · have e : k = L.length := by omega
      subst e
      exact CodeC.of_run (fr := fr c l off cap pk h key st o m L (eAt c l L n L.length) sl w n (L.length : Int) [f]) Egok (p_x c l L off cap pk h key st o m _ sl w n L.length) (pcs_of ⟨decide_eq_false (by omega), trivial⟩) (show 2 ≤ 23 by omega) z2' (.inr ⟨by simp, rfl, rfl⟩)
  rintro ex fr ⟨rfl, rfl⟩
  exact hT
end
open Dec in
theorem main (c : Cfg) (l : List Int) (off cap : Nat) (pk : Pk) (h key st : Int) (hr : c.Right) (hlen : (l.length : Int) = c.len) (hwf : WfW l) (hh : Wd h) :
    CallC Tryz.prog fid (A c l off cap pk h key st) (plHp l off pk) (.bool true) (plHp l off pk) := by
  have m0 : (newM c l).ok := newM_ok hlen
  have g0 : wrGood (wrOf c h key) (newM c l) := ⟨m0, hwf, wrOf_good c hh key⟩
  have g1 : wrGood (R c l h key).2.1 (R c l h key).2.2 := wrRun_good 300 0 _ _ g0
  obtain ⟨a1, a2, a3, a4, a5⟩ := wr_run hr (m := newM c l) rfl m0 h key (N := 300) (by omega) 0
  have a1 : (R c l h key).2.1.dn = true := a1
  have a4 : (R c l h key).2.1.no = (wrWant c l h key).2 := a4
  have a5 : (R c l h key).2.2.w = (wrWant c l h key).1 := a5
  have hq : ∀ p ∈ q0 c l off h key, p := pcs_of ⟨⟨hr, hlen, rfl, rfl⟩, isNewW_ok c hh key, wrP_ok _ _, qRunW_ok 300 (by decide) g0, rfl, rfl, ⟨hr, hlen, hwf, hh⟩, hh, trivial⟩
  have hcl := Cfg.len_in hr
  have hN : (R c l h key).2.2.N = l.length := by
    have e1 := g1.1.1
    have e2 := g1.1.2
    rw [show (R c l h key).2.2.c = c from a2] at e2
    omega
  have hNw : (R c l h key).2.2.N = (R c l h key).2.2.w.length := g1.1.1
  have hE : ∀ (e : Int) (o : Nat) (W : List Int), (wrWant c l h key).2 = e → W.length = l.length → ∀ p ∈ qE c l h key e o W, p := fun e o W he hW =>
    pcs_of ⟨wrP_ok _ _, qAskW_ok g1.2.2, a1, wrP_ok _ _, qAskW_ok g1.2.2, by rw [a4, he]; exact beq_self_eq_true _, g1.1, rfl, rfl, by omega, by omega, by omega, trivial⟩
  have hEe : ∀ (e : Int) (W : List Int), (wrWant c l h key).2 = e → W.length = l.length → ∀ p ∈ eQ l (R c l h key).2.1 (R c l h key).2.2 e W, p := fun e W he hW =>
    pcs_of ⟨wrP_ok _ _, qAskW_ok g1.2.2, a1, wrP_ok _ _, qAskW_ok g1.2.2, by rw [a4, he]; exact beq_self_eq_true _, g1.1, rfl, rfl, by omega, by omega, by omega, trivial⟩
  have hO : ∀ W : List Int, (wrWant c l h key).1 = W → W.length = l.length → out (R c l h key).2.2 l W = true := fun W he hW => by
    unfold out
    rw [a5, he, hN, beq_iff_eq]
  have ok : ∀ {ds : List Dec} {pc : List Prop} (_ : (wrWant c l h key).1 = l), callR (EA false false false) 20 fid (A c l off cap pk h key st) (plHp l off pk) ds [0, 1] = some (.bool (out (R c l h key).2.2 l l), plHp l off pk, pc) → (∀ p ∈ pc, p) → CallC Tryz.prog fid (A c l off cap pk h key st) (plHp l off pk) (.bool true) (plHp l off pk) := fun he hc hpc => by
    have := CallC.of_call (EAok false false false) hc hpc rfl z2'
    rw [hO l he rfl] at this
    exact this
  by_cases k0 : key < 0
  · have e := wwant_key (c := c) (w := l) (h := h) (.inl k0)
    exact ok (by rw [e]) (p_k0 c l off cap pk h key st) (pcs_app hq (List.forall_mem_cons.2 ⟨decide_eq_true k0, hE 5 off l (by rw [e]) rfl⟩))
  by_cases k1 : key ≥ c.k
  · have e := wwant_key (c := c) (w := l) (h := h) (.inr k1)
    exact ok (by rw [e]) (p_k1 c l off cap pk h key st) (pcs_app hq (List.forall_mem_cons.2 ⟨decide_eq_false k0, List.forall_mem_cons.2 ⟨decide_eq_true k1, hE 5 off l (by rw [e]) rfl⟩⟩))
  by_cases hb : brI c l h = 0
  · obtain ⟨ho, hf, hw⟩ := wwant_go k0 k1 hb
    obtain ⟨i0, i1, i2⟩ := ofOk_rng ho
    have eS : brS c h = tkS h := if_pos ho
    have k0' : 0 ≤ key := by omega
    have k1' : key < c.k := by omega
    have b8 := ix_key_rng hr k0' k1'
    have b4 := ix_slot_rng hr (k := 4) (.inl rfl) i0 i1
    have b5 := ix_slot_rng hr (k := 5) (.inr (.inl rfl)) i0 i1
    have ek : kv c l off 8 key = kWd c l key := kv_eq b8.1
    have e4 : kv c l off 4 (tkS h) = sWd c l (tkS h) := kv_eq b4.1
    have e5 : kv c l off 5 (tkS h) = snWd c l (tkS h) := kv_eq b5.1
    have hkw : Wd (kWd c l key) := hwf.getW _
    have hI : ∀ p ∈ qI c l off h key, p := by
      unfold qI
      rw [eS]
      exact pcs_app hq (pcs_app (pcs_of ⟨decide_eq_false k0, decide_eq_false k1, by rw [hb]; rfl, trivial⟩) (pcs_app (aV_ok hr hlen b8.1 b8.2) (aV_ok hr hlen b5.1 b5.2)))
    have hu : ∀ p ∈ uQ l off, p := pcs_of ⟨Nat.le_refl _, rfl, by omega, by omega, trivial⟩
    have tail : ∀ e, e = (if wrClash c l (tkS h) key = true then (8 : Int) else 0) → KC Eg 2 (.exit 0) K (frX c l off cap pk h key st (R c l h key).2.1 (R c l h key).2.2 e (tkS h) (kWd c l key) []) (Ev.Ends Eg fn 2 (.bool true) (plHp l off pk)) := fun e he => by
      have ends : ∀ {E : Env} (_ : EnvOk E) (_ : Eg.P = E.P) {ds : List Dec} {pc : List Prop} (W : List Int) (_ : (wrWant c l h key).1 = W) (_ : W.length = l.length), execR E 12 (.exit 0) K [0, 1] [6] 2 [] (frX c l off cap pk h key st (R c l h key).2.1 (R c l h key).2.2 e (tkS h) (kWd c l key) ds) = some (.ret, [], frE l off pk (out (R c l h key).2.2 l W), pc) → (∀ p ∈ pc, p) → KC Eg 2 (.exit 0) K (frX c l off cap pk h key st (R c l h key).2.1 (R c l h key).2.2 e (tkS h) (kWd c l key) []) (Ev.Ends Eg fn 2 (.bool true) (plHp l off pk)) := fun {E} hE hP {ds pc} W hw1 hw2 hx hpc => by
        rw [hO W hw1 hw2] at hx
        refine KC.env hP (KC.of_exec (fr := frX c l off cap pk h key st (R c l h key).2.1 (R c l h key).2.2 e (tkS h) (kWd c l key) ds) hE hx hpc (show 2 ≤ 21 by omega) z2' (KC.done ?_))
        cases pk <;> exact ⟨by simp, [.bool true], [], [0, 1], 2, by kernel_rfl, by simp, by kernel_rfl, rfl, z2'⟩
      cases hcl' : wrClash c l (tkS h) key with
      | true =>
        rw [hcl', if_pos rfl] at he
        subst he
        have hend : wrEnd c l (tkS h) key = (putS c l (tkS h) (mvI (sWd c l (tkS h)) 5 false), 8) := by unfold wrEnd; rw [if_pos hcl']
        have eF : F8 c l off (tkS h) = putS c l (tkS h) (mvI (sWd c l (tkS h)) 5 false) := by
          unfold F8 putS
          rw [e4, List.take_length, iI_eq, setW_in b4.1]
        have lF : (F8 c l off (tkS h)).length = l.length := by rw [eF, putS_len]
        refine ends (EAok false false false) rfl (F8 c l off (tkS h)) (by rw [hw, hend, eF]) lF (y_8 c l off cap pk h key st _ _ (tkS h) (kWd c l key)) ?_
        exact pcs_app (aV_ok hr hlen b4.1 b4.2) (List.forall_mem_cons.2 ⟨by rw [e4]; exact hwf.sWd _, pcs_app hu (pcs_app (pcs_of ⟨hr, b4.1, by omega, by rw [List.take_length, iI_eq]; omega, trivial⟩) (hEe 8 _ (by rw [hw, hend]) lF))⟩)
      | false =>
        rw [hcl', if_neg (by decide)] at he
        subst he
        have ep : P0 c l key (kWd c l key) (tkS h) = setW l (cellIx c 8 key) (withI (kWd c l key) 1 (tkS h)) := by
          unfold P0
          rw [List.take_length, iI_eq, setW_in b8.1]
        obtain ⟨w0, hw0⟩ : ∃ w0, setW l (cellIx c 8 key) (withI (kWd c l key) 1 (tkS h)) = w0 := ⟨_, rfl⟩
        have hl0 : w0.length = l.length := by rw [← hw0, setW_len]
        have hww : WfW w0 := by rw [← hw0]; exact hwf.setW _ (withI_rng hkw _ _).1 (withI_rng hkw _ _).2
        rw [hw0] at ep
        obtain ⟨W, hW⟩ : ∃ W, cfs c (tkS h) 1 (snWd c w0 (tkS h)) w0 (othL (kWd c l key) 0 (tkS h)) = W := ⟨_, rfl⟩
        have eC : Cf c l key (kWd c l key) (tkS h) = W := by unfold Cf; rw [ep, hW]
        have hend := wrEnd_cfs hr hlen hwf i0 i1 k0' k1' hf hcl' hw0 hW
        have hK : ∀ p ∈ kQ c l off key (kWd c l key) 0, p := List.forall_mem_cons.2 ⟨rfl, List.forall_mem_cons.2 ⟨hkw, pcs_app hu (pcs_of ⟨hr, b8.1, by omega, by rw [List.take_length, iI_eq]; omega, trivial⟩)⟩⟩
        have hL0 : ∀ x ∈ othL (kWd c l key) 0 (tkS h), 0 ≤ x := fun x hx => (oth_mem hx).1
        have hLl : (othL (kWd c l key) 0 (tkS h)).length ≤ 1000 := by have := oth_len (kWd c l key) 0 (tkS h); omega
        have hcf : ∀ L : List Int, (∀ x ∈ L, 0 ≤ x) → L.length ≤ 1000 → CfOk c (tkS h) 1 w0 L := fun L h1 h2 => ⟨hr, by rw [hl0]; exact hlen, hww, i0, i1, by omega, h1, h2⟩
        by_cases hn : othL (kWd c l key) 0 (tkS h) = []
        · have eW : W = (w0, true) := by rw [← hW, hn]; rfl
          rw [eW] at hend
          have lP : (P0 c l key (kWd c l key) (tkS h)).length = l.length := by rw [ep]; exact hl0
          exact ends (EAok false false false) rfl (P0 c l key (kWd c l key) (tkS h)) (by rw [hw, hend, ep]; rfl) lP (y_0 c l off cap pk h key st _ _ 0 (tkS h) (kWd c l key)) (pcs_app hK (pcs_app (pcs_of ⟨⟨hkw, hn⟩, lP.symm, by rw [ep]; exact hcf [] (fun x hx => absurd hx (by simp)) (by simp), rfl, trivial⟩) (hEe 0 _ (by rw [hw, hend]; rfl) lP)))
        · obtain ⟨b, hcb⟩ : ∃ b, cfl c (tkS h) 1 (snWd c w0 (tkS h)) w0 (othL (kWd c l key) 0 (tkS h)) = b := ⟨_, rfl⟩
          have hC : ∀ m, (!W.2) = m → ∀ p ∈ cQ c l key (kWd c l key) (tkS h) b m, p := fun m hm => by
            unfold cQ
            rw [eC, ep]
            exact pcs_of ⟨⟨hkw, hn⟩, hl0.symm, rfl, hcf _ hL0 hLl, hcb, hm, trivial⟩
          have hWl : W.1.length = l.length := by
            rw [← hW, ← hl0]
            exact cfs_len _ _ _ _ _ _
          have hWw : WfW W.1 := by
            rw [← hW]
            exact cfs_wf _ _ hww
          have hF : ∀ p ∈ fQ c l (tkS h) W.1, p := by
            unfold fQ
            rw [sI_eq b4.1]
            exact pcs_app (aQ_ok hr (by rw [hWl]; exact hlen) hWl.symm b4.1 b4.2) (List.forall_mem_cons.2 ⟨hWw.sWd _, pQ_ok hr (by rw [hWl]; exact hlen) (by rw [List.length_take]; omega) hWl.symm b4.1 b4.2⟩)
          have efin : fin W.1 c l (tkS h) = putS c W.1 (tkS h) (mvI (sWd c W.1 (tkS h)) 5 false) := by
            unfold fin putS
            rw [sI_eq b4.1, ← hWl, List.take_length, iI_eq, setW_in b4.1]
            rfl
          cases hm : W.2 with
          | true =>
            rw [hm, if_pos rfl, if_pos rfl] at hend
            have hm' : (!W.2) = false := by rw [hm]; rfl
            cases b with
            | false =>
              have e1 : W.1 = w0 := by rw [← hW]; exact cfl_none _ _ hcb
              have lP : (P0 c l key (kWd c l key) (tkS h)).length = l.length := by rw [ep]; exact hl0
              exact ends (EAok false true false) rfl (P0 c l key (kWd c l key) (tkS h)) (by rw [hw, hend, ep, e1]) lP (y_1m c l off cap pk h key st _ _ 0 (tkS h) (kWd c l key)) (pcs_app hK (pcs_app (hC false hm') (List.forall_mem_cons.2 ⟨rfl, hEe 0 _ (by rw [hw, hend]) lP⟩)))
            | true =>
              exact ends (EAok false true true) rfl (Cf c l key (kWd c l key) (tkS h)).1 (by rw [hw, hend, eC]) (by rw [eC]; exact hWl) (y_2m c l off cap pk h key st _ _ 0 (tkS h) (kWd c l key)) (pcs_app hK (pcs_app (hC false hm') (List.forall_mem_cons.2 ⟨rfl, hEe 0 _ (by rw [hw, hend]) (by rw [eC]; exact hWl)⟩)))
          | false =>
            rw [hm, if_neg (by decide), if_neg (by decide)] at hend
            have hm' : (!W.2) = true := by rw [hm]; rfl
            have hfl : (fin W.1 c l (tkS h)).length = l.length := by rw [efin, putS_len]; exact hWl
            cases b with
            | false =>
              have e1 : W.1 = w0 := by rw [← hW]; exact cfl_none _ _ hcb
              exact ends (EAok false true false) rfl (fin (P0 c l key (kWd c l key) (tkS h)) c l (tkS h)) (by rw [hw, hend, ep, ← e1, efin]) (by rw [ep, ← e1]; exact hfl) (y_1f c l off cap pk h key st _ _ 0 (tkS h) (kWd c l key)) (pcs_app hK (pcs_app (hC true hm') (pcs_app (by rw [ep, ← e1]; exact hF) (hEe 7 _ (by rw [hw, hend]) (by rw [ep, ← e1]; exact hfl)))))
            | true =>
              exact ends (EAok false true true) rfl (fin (Cf c l key (kWd c l key) (tkS h)).1 c l (tkS h)) (by rw [hw, hend, eC, efin]) (by rw [eC]; exact hfl) (y_2f c l off cap pk h key st _ _ 0 (tkS h) (kWd c l key)) (pcs_app hK (pcs_app (hC true hm') (pcs_app (by rw [eC]; exact hF) (hEe 7 _ (by rw [hw, hend]) (by rw [eC]; exact hfl)))))
    refine CallC.of_body (E := Eg) (ds := []) (fn := fn) 161 (by kernel_rfl) (by kernel_rfl) (by kernel_rfl) (by kernel_rfl) ?_
    have hR0 : ∀ x ∈ othL (kWd c l key) 1 (tkS h), 0 ≤ x := fun x hx => (oth_mem hx).1
    by_cases hriv : othL (kWd c l key) 1 (tkS h) = []
    · have hin := p_in0 c l off cap pk h key st
      have hpc : ∀ p ∈ qI c l off h key ++ [Wd (kv c l off 8 key) ∧ othL (kv c l off 8 key) 1 (brS c h) = []], p := pcs_app hI (pcs_of ⟨by rw [ek, eS]; exact ⟨hkw, hriv⟩, trivial⟩)
      refine KC.env (E' := EA false false false) rfl (KC.of_exec (fr := start c l off cap pk h key st [Dec.l, Dec.l, f, f, t]) (EAok false false false) hin hpc (Nat.le_refl _) z2' ?_)
      rw [hb, eS, ek]
      refine KC.env (E := EA false false false) (E' := Eg) rfl ?_
      refine KC.loop (m0 := 2) (ι := Unit) (fun _ => frN c l off cap pk h key st (R c l h key).2.1 (R c l h key).2.2 0 (tkS h) (kWd c l key) (kv c l off 5 (tkS h)) []) (fun _ => True) (fun _ => 0)
        (fun ex fr => ex = .exit 0 ∧ fr = frX c l off cap pk h key st (R c l h key).2.1 (R c l h key).2.2 0 (tkS h) (kWd c l key) []) (fun _ _ => ?_) ?_ () trivial
      · exact CodeC.of_run (fr := frN c l off cap pk h key st (R c l h key).2.1 (R c l h key).2.2 0 (tkS h) (kWd c l key) (kv c l off 5 (tkS h)) [Dec.l]) Egok (p_x0 c l off cap pk h key st _ _ 0 _ _ _) (pcs_of trivial) (show 2 ≤ 21 by omega) z2' (.inr ⟨by simp, rfl, rfl⟩)
      rintro ex fr ⟨rfl, rfl⟩
      exact tail 0 (by unfold wrClash; rw [hriv]; rfl)
    · have hin := p_in c l off cap pk h key st
      have hpc : ∀ p ∈ qI c l off h key ++ [Wd (kv c l off 8 key) ∧ othL (kv c l off 8 key) 1 (brS c h) ≠ []], p := pcs_app hI (pcs_of ⟨by rw [ek, eS]; exact ⟨hkw, hriv⟩, trivial⟩)
      refine KC.env (E' := EA true false false) rfl (KC.of_exec (fr := start c l off cap pk h key st [Dec.l, Dec.l, f, f, t]) (EAok true false false) hin hpc (Nat.le_refl _) z2' ?_)
      rw [hb, eS, ek, e5]
      refine KC.env (E := EA true false false) (E' := Eg) rfl ?_
      refine loop_C hr hlen hwf hR0 (oth_len _ _ _) (tail _ ?_)
      unfold eAt wrClash
      rw [List.take_length]
  · have e := wwant_bar k0 k1 hb
    exact ok (by rw [e]) (p_e c l off cap pk h key st) (pcs_app hq (List.forall_mem_cons.2 ⟨decide_eq_false k0, List.forall_mem_cons.2 ⟨decide_eq_false k1, List.forall_mem_cons.2 ⟨beq_false_of_ne hb, hE _ off l (by rw [e]) rfl⟩⟩⟩))
theorem walk (c : Cfg) (v : Value) (l : List Int) (zs : List Int) (sv : Value) (rows : List (List Int)) (w : World) (hl : RowIn .u64 w v l) (hz : zs.length = 3) (hk : ∀ i, i < 3 → (Lit.int (([.u64, .i64, .i64] : List IntKind).getD i .i64) (zs.getD i 0)).wf = true) (hs : RowR pkK w sv rows) :
    Calls Tryz.prog fid #[c.v, v, .agg ⟨rowV [.u64, .i64, .i64] zs ++ [sv]⟩] w fun e w1 => e = .returned (.bool true) ∧ Below w.heap.size w w1 := by
  obtain ⟨h, key, st, rfl⟩ : ∃ a b d, zs = [a, b, d] := by
    match zs, hz with
    | [a, b, d], _ => exact ⟨a, b, d, rfl⟩
  have hh : Wd h := bounds_u64 (hk 0 (by decide))
  exact law_play2 (E' := Ev4o) Ev4ok rfl hl hs (fun hr hlen off cap pk _ => ⟨_, main c l off cap pk h key st hr hlen (row_wf hl) hh⟩)
    (fun hr a m cap pk => ⟨_, _, p_nr c cap pk h key st a m, pcs_of ⟨by simp [rightB, hr], isNewW_ok c hh key, trivial⟩⟩)
    (fun hr a m cap pk hlen => ⟨_, _, p_nl c cap pk h key st a m, pcs_of ⟨by simp [rightB, hr], hr, by simpa using hlen, isNewW_ok c hh key, trivial⟩⟩)
end Go.Proofs.YtocfhiafegkfkaaGreat.WriteAloneDone
