/- What 'ReadAlone' comes to, of any input. -/
import Derived.Test.YtmpidecpfcikoaaGreatLwReadAloneV
namespace Go.Proofs.YtmpidecpfcikoaaGreat.ReadAloneDone
open Go Go.Proofs Go.Proofs.YtmpidecpfcikoaaGreat.Ev Go.Proofs.YtmpidecpfcikoaaGreat.Ct
open Go.RowKit

theorem z2L : ∀ k, k < 2 → ([0, 1] : List Nat).getD k 0 = k := fun k hk => by
  match k, hk with
  | 0, _ => rfl
  | 1, _ => rfl
theorem main (c : Cfg) (l : List Int) (off cap : Nat) (pk : Pk) (h key st : Int) (hr : c.Right) (hlen : (l.length : Int) = c.len) (hwf : WfW l) (hh : Wd h) :
    CallC Tryz.prog fid (A c l off cap pk h key st) (plHp l off pk) (.bool true) (plHp l off pk) := by
  have m0 : (newM c l).ok := newM_ok hlen
  have g0 : rdGood (rdOf c h key) (newM c l) := ⟨m0, hwf, rdOf_good c hh key⟩
  have g1 : rdGood (R c l h key).2.1 (R c l h key).2.2 := rdRun_good 300 0 _ _ g0
  obtain ⟨a1, a2, a3, a4, a5⟩ := rd_run hr (m := newM c l) rfl m0 h key (N := 300) (by omega) 0
  have a4 : (R c l h key).2.1.no = (rdWant c l h key).2 := a4
  have a5 : (R c l h key).2.2.w = (rdWant c l h key).1 := a5
  have hq : ∀ p ∈ q0 c l off h key, p := pcs_of ⟨⟨hr, hlen, rfl, rfl⟩, isNew_ok c hh key, rdP_ok _ _, qRun_ok 300 (by decide) g0, rfl, rfl, ⟨hr, hlen, hwf, hh⟩, hh, trivial⟩
  have hcl := Cfg.len_in hr
  have hN : (R c l h key).2.2.N = l.length := by
    have e1 := g1.1.1
    have e2 := g1.1.2
    rw [show (R c l h key).2.2.c = c from a2] at e2
    omega
  have hNw : (R c l h key).2.2.N = (R c l h key).2.2.w.length := g1.1.1
  have hE : ∀ (e : Int) (o : Nat) (W : List Int), (rdWant c l h key).2 = e → W.length = l.length → ∀ p ∈ qE c l h key e o W, p := fun e o W he hW =>
    pcs_of ⟨rdP_ok _ _, qAsk_ok g1.2.2, a1, rdP_ok _ _, qAsk_ok g1.2.2, by rw [a4, he]; exact beq_self_eq_true _, g1.1, rfl, rfl, by omega, by omega, by omega, trivial⟩
  have hO : ∀ W : List Int, (rdWant c l h key).1 = W → W.length = l.length → out c l h key W = true := fun W he hW => by
    unfold out
    rw [a5, he, hN, beq_iff_eq]
  have ok : ∀ {E : Env} {ds : List Dec} {pc : List Prop} (_ : EnvOk E) (_ : E.P = Tryz.prog) (W : List Int) (_ : (rdWant c l h key).1 = W) (_ : W.length = l.length), callR E 20 fid (A c l off cap pk h key st) (plHp l off pk) ds [0, 1] = some (.bool (out c l h key W), plHp l off pk, pc) → (∀ p ∈ pc, p) → CallC Tryz.prog fid (A c l off cap pk h key st) (plHp l off pk) (.bool true) (plHp l off pk) := fun hE hP W he hW hc hpc => by
    have := CallC.of_call hE hc hpc rfl z2L
    rw [hO W he hW, hP] at this
    exact this
  by_cases k0 : key < 0
  · have e := want_key (c := c) (w := l) (h := h) (.inl k0)
    exact ok Eaok rfl l (by rw [e]) rfl (p_k0 c l off cap pk h key st) (pcs_app hq (List.forall_mem_cons.2 ⟨decide_eq_true k0, hE 5 off l (by rw [e]) rfl⟩))
  by_cases k1 : key ≥ c.k
  · have e := want_key (c := c) (w := l) (h := h) (.inr k1)
    exact ok Eaok rfl l (by rw [e]) rfl (p_k1 c l off cap pk h key st) (pcs_app hq (List.forall_mem_cons.2 ⟨decide_eq_false k0, List.forall_mem_cons.2 ⟨decide_eq_true k1, hE 5 off l (by rw [e]) rfl⟩⟩))
  by_cases hb : brI c l h = 0
  · obtain ⟨ho, hf, hw⟩ := want_go k0 k1 hb
    obtain ⟨i0, i1, i2⟩ := ofOk_rng ho
    have eS : brS c h = tkS h := if_pos ho
    have k0' : 0 ≤ key := by omega
    have k1' : key < c.k := by omega
    have b8 := ix_key_rng hr k0' k1'
    have b4 := ix_slot_rng hr (k := 4) (.inl rfl) i0 i1
    have ek : kw c l off key = kWd c l key := by
      unfold kw oI kWd
      rw [addN_eq, mulN_eq, getW_in b8.1]
      congr 1
      omega
    have hkw : Wd (kWd c l key) := hwf.getW _
    have ep : pk0 c l off h key = setW l (cellIx c 8 key) (withI (kWd c l key) 0 (tkS h)) := by
      unfold pk0
      rw [ek, eS, List.take_length, iI_eq, setW_in b8.1]
    have eo : oth c l off h key = othL (kWd c l key) 1 (tkS h) := by unfold oth; rw [ek, eS]
    obtain ⟨w0, hw0⟩ : ∃ w0, setW l (cellIx c 8 key) (withI (kWd c l key) 0 (tkS h)) = w0 := ⟨_, rfl⟩
    have hl0 : w0.length = l.length := by rw [← hw0, setW_len]
    have hww : WfW w0 := by rw [← hw0]; exact hwf.setW _ (withI_rng hkw _ _).1 (withI_rng hkw _ _).2
    rw [hw0] at ep
    obtain ⟨W, hW⟩ : ∃ W, cfs c (tkS h) 0 (snWd c w0 (tkS h)) w0 (othL (kWd c l key) 1 (tkS h)) = W := ⟨_, rfl⟩
    have eC : Cf c l off h key = W := by unfold Cf; rw [ep, eo, eS, hW]
    have hend := rdEnd_cfs hr hlen hwf i0 i1 k0' k1' hf hw0 hW
    have hP : ∀ p ∈ qP c l off h key, p := by
      unfold qP
      rw [ek]
      exact pcs_of ⟨decide_eq_false k0, decide_eq_false k1, by rw [hb]; rfl, hr, b8.1, by omega, by rw [addN_eq]; omega, by unfold oI; rw [addN_eq, mulN_eq]; omega, hkw, Nat.le_refl _, rfl, by omega, by omega, hr, b8.1, by omega, by rw [List.take_length, iI_eq]; omega, trivial⟩
    have hL0 : ∀ x ∈ othL (kWd c l key) 1 (tkS h), 0 ≤ x := fun x hx => (oth_mem hx).1
    have hLl : (othL (kWd c l key) 1 (tkS h)).length ≤ 1000 := by have := oth_len (kWd c l key) 1 (tkS h); omega
    have hcf : ∀ L : List Int, (∀ x ∈ L, 0 ≤ x) → L.length ≤ 1000 → CfOk c (tkS h) 0 w0 L := fun L h1 h2 => ⟨hr, by rw [hl0]; exact hlen, hww, i0, i1, by omega, h1, h2⟩
    by_cases hn : othL (kWd c l key) 1 (tkS h) = []
    · have eW : W = (w0, true) := by rw [← hW, hn]; rfl
      rw [eW] at hend
      refine ok Ea0ok rfl (pk0 c l off h key) (by rw [hw, hend, ep]; rfl) (by rw [ep]; exact hl0) (p_nil c l off cap pk h key st) (pcs_app hq (pcs_app hP (List.forall_mem_cons.2 ⟨⟨by rw [ek]; exact hkw, by rw [eo]; exact hn⟩, List.forall_mem_cons.2 ⟨by rw [ep]; exact hl0.symm, List.forall_mem_cons.2 ⟨by rw [ep, eS]; exact hcf [] (fun x hx => absurd hx (by simp)) (by simp), hE _ 0 _ (by rw [hw, hend, hb]; rfl) (by rw [ep]; exact hl0)⟩⟩⟩)))
    · obtain ⟨b, hcl'⟩ : ∃ b, cfl c (tkS h) 0 (snWd c w0 (tkS h)) w0 (othL (kWd c l key) 1 (tkS h)) = b := ⟨_, rfl⟩
      have hC : ∀ m, (!W.2) = m → ∀ p ∈ qC c l off h key b m, p := fun m hm => by
        unfold qC
        rw [eC, ep, eo, ek, eS]
        exact pcs_of ⟨⟨hkw, hn⟩, hl0.symm, rfl, hcf _ hL0 hLl, hcl', hm, trivial⟩
      have hWl : W.1.length = l.length := by
        rw [← hW, ← hl0]
        exact cfs_len _ _ _ _ _ _
      have hWw : WfW W.1 := by
        rw [← hW]
        exact cfs_wf _ _ hww
      have hF : ∀ p ∈ qF c l h W.1, p := by
        unfold qF
        rw [eS, sI_eq b4.1]
        exact pcs_app (aQ_ok hr (by rw [hWl]; exact hlen) hWl.symm b4.1 b4.2) (List.forall_mem_cons.2 ⟨hWw.sWd _, pQ_ok hr (by rw [hWl]; exact hlen) (by rw [List.length_take]; omega) hWl.symm b4.1 b4.2⟩)
      have efin : fin W.1 c l h = putS c W.1 (tkS h) (mvI (sWd c W.1 (tkS h)) 5 false) := by
        unfold fin putS
        rw [eS, sI_eq b4.1, ← hWl, List.take_length, iI_eq, setW_in b4.1]
        rfl
      cases hm : W.2 with
      | true =>
        rw [hm, if_pos rfl, if_pos rfl] at hend
        have hm' : (!W.2) = false := by rw [hm]; rfl
        cases b with
        | false =>
          have e1 : W.1 = w0 := by rw [← hW]; exact cfl_none _ _ hcl'
          refine ok Ea1ok rfl (pk0 c l off h key) (by rw [hw, hend, ep, e1]) (by rw [ep]; exact hl0) (p_1m c l off cap pk h key st) (pcs_app hq (pcs_app hP (pcs_app (hC false hm') (hE _ 0 _ (by rw [hw, hend, hb]) (by rw [ep]; exact hl0)))))
        | true =>
          refine ok Ea2ok rfl (Cf c l off h key).1 (by rw [hw, hend, eC]) (by rw [eC]; exact hWl) (p_2m c l off cap pk h key st) (pcs_app hq (pcs_app hP (pcs_app (hC false hm') (hE _ 0 _ (by rw [hw, hend, hb]) (by rw [eC]; exact hWl)))))
      | false =>
        rw [hm, if_neg (by decide), if_neg (by decide)] at hend
        have hm' : (!W.2) = true := by rw [hm]; rfl
        have hfl : (fin W.1 c l h).length = l.length := by rw [efin, putS_len]; exact hWl
        cases b with
        | false =>
          have e1 : W.1 = w0 := by rw [← hW]; exact cfl_none _ _ hcl'
          refine ok Ea1ok rfl (fin (pk0 c l off h key) c l h) (by rw [hw, hend, ep, ← e1, efin]) (by rw [ep, ← e1]; exact hfl) (p_1f c l off cap pk h key st) (pcs_app hq (pcs_app hP (pcs_app (hC true hm') (pcs_app (by rw [ep, ← e1]; exact hF) (hE 7 0 _ (by rw [hw, hend]) (by rw [ep, ← e1]; exact hfl))))))
        | true =>
          refine ok Ea2ok rfl (fin (Cf c l off h key).1 c l h) (by rw [hw, hend, eC, efin]) (by rw [eC]; exact hfl) (p_2f c l off cap pk h key st) (pcs_app hq (pcs_app hP (pcs_app (hC true hm') (pcs_app (by rw [eC]; exact hF) (hE 7 0 _ (by rw [hw, hend]) (by rw [eC]; exact hfl))))))
  · have e := want_bar k0 k1 hb
    exact ok Eaok rfl l (by rw [e]) rfl (p_e c l off cap pk h key st) (pcs_app hq (List.forall_mem_cons.2 ⟨decide_eq_false k0, List.forall_mem_cons.2 ⟨decide_eq_false k1, List.forall_mem_cons.2 ⟨beq_false_of_ne hb, hE _ off l (by rw [e]) rfl⟩⟩⟩))
theorem walk (c : Cfg) (v : Value) (l : List Int) (zs : List Int) (sv : Value) (rows : List (List Int)) (w : World) (hl : RowIn .u64 w v l) (hz : zs.length = 3) (hk : ∀ i, i < 3 → (Lit.int (([.u64, .i64, .i64] : List IntKind).getD i .i64) (zs.getD i 0)).wf = true) (hs : RowR pkK w sv rows) :
    Calls Tryz.prog fid #[c.v, v, .agg ⟨rowV [.u64, .i64, .i64] zs ++ [sv]⟩] w fun e w1 => e = .returned (.bool true) ∧ Below w.heap.size w w1 := by
  obtain ⟨h, key, st, rfl⟩ : ∃ a b d, zs = [a, b, d] := by
    match zs, hz with
    | [a, b, d], _ => exact ⟨a, b, d, rfl⟩
  have hh : Wd h := bounds_u64 (hk 0 (by decide))
  exact law_play2 (E' := Er4o) Er4ok rfl hl hs (fun hr hlen off cap pk _ => ⟨_, main c l off cap pk h key st hr hlen (row_wf hl) hh⟩)
    (fun hr a m cap pk => ⟨_, _, p_nr c cap pk h key st a m, pcs_of ⟨by simp [rightB, hr], isNew_ok c hh key, trivial⟩⟩)
    (fun hr a m cap pk hlen => ⟨_, _, p_nl c cap pk h key st a m, pcs_of ⟨by simp [rightB, hr], hr, by simpa using hlen, isNew_ok c hh key, trivial⟩⟩)
end Go.Proofs.YtmpidecpfcikoaaGreat.ReadAloneDone
