/- What 'ReadOnly' comes to, of any input. -/
import Derived.Test.YtmpidecpfcikoaaGreatLwReadOnlyV
import Derived.Test.YtmpidecpfcikoaaGreatCtReadO
namespace Go.Proofs.YtmpidecpfcikoaaGreat.ReadOnlyDone
open Go Go.Proofs Go.Proofs.YtmpidecpfcikoaaGreat.Ev Go.Proofs.YtmpidecpfcikoaaGreat.Ct
open Go.RowKit

theorem z2 {tl : List Nat} : ∀ k, k < 2 → (0 :: 1 :: tl).getD k 0 = k := fun k hk => by
  match k, hk with
  | 0, _ => rfl
  | 1, _ => rfl
theorem atK_true {c : Cfg} {i : Nat} {k n : Int} (h : cellIx c k n = (i : Int)) : atK c i k n = true := by
  obtain ⟨h1, h2⟩ := at_cellIx h (Int.natCast_nonneg i)
  unfold atK
  rw [h1, h2]
  simp [andL]
theorem atK_kind {c : Cfg} {i : Nat} {k n k' : Int} (h : cellIx c k n = (i : Int)) (hne : k ≠ k') (n' : Int) : atK c i k' n' = false := by
  obtain ⟨h1, _⟩ := at_cellIx h (Int.natCast_nonneg i)
  unfold atK
  rw [h1]
  simp [andL, hne]
theorem atK_num {c : Cfg} {i : Nat} {k n n' : Int} (h : cellIx c k n = (i : Int)) (hne : n ≠ n') : atK c i k n' = false := by
  obtain ⟨h1, h2⟩ := at_cellIx h (Int.natCast_nonneg i)
  unfold atK
  rw [h1, h2]
  simp [andL, hne]
theorem md_eq {a b : Int} (ha : Wd a) (hb : Wd b) (h : a / 4096 % 4096 = b / 4096 % 4096) : (Int.tmod (u64 (Int.tdiv a 4096)) 4096 != Int.tmod (u64 (Int.tdiv b 4096)) 4096) = false := by
  have e : ∀ x : Int, Wd x → Int.tmod (u64 (Int.tdiv x 4096)) 4096 = x / 4096 % 4096 := fun x hx => by
    rw [Int.tdiv_eq_ediv_of_nonneg hx.1, w_u64 (by omega) (by omega), Int.tmod_eq_emod_of_nonneg (by omega)]
  rw [e a ha, e b hb, h]
  exact bne_self_eq_false _
open Dec in
theorem round (c : Cfg) (l W : List Int) (off cap N : Nat) (h key st : Int) (pk : Pk) (o : Rd) (hr : c.Right) (hlen : (l.length : Int) = c.len) (hl : WfW l) (hW : WfW W) (hN : N = l.length) (hw : W.length = l.length)
    (hch : ∀ p : Int, 0 ≤ p → getW W p ≠ getW l p → (cellIx c 8 key = p ∧ getW W p = withI (getW l p) 0 (brS c h)) ∨ (cellIx c 4 (brS c h) = p ∧ nuI (getW W p) 30 32 = nuI (getW l p) 30 32 ∧ getW W p / 4096 % 4096 = getW l p / 4096 % 4096) ∨ (∃ x, x ≠ brS c h ∧ cellIx c 4 x = p ∧ getW W p = withI (getW l p) 1 (brS c h))) (k : Nat) (hlt : k < N) :
    ∃ ds, CodeC Er4o 2 (bd fn lp) (fr c l off cap h key st pk o N W (brS c h) (k : Int) ds) (fun ex G => ex = .normal ∧ G = fr c l off cap h key st pk o N W (brS c h) ((k + 1 : Nat) : Int) []) := by
  have hcl := Cfg.len_in hr
  have eW : wA W k = getW W (k : Int) := by
    rw [getW_in (Int.natCast_nonneg k)]
    show W.getD (addN 0 (mulN k 1)) 0 = W.getD k 0
    rw [addN_eq, mulN_eq]
    congr 1
    omega
  have eL : lA l off k = getW l (k : Int) := by
    rw [getW_in (Int.natCast_nonneg k)]
    show l.getD (addN off (mulN k 1) - off) 0 = l.getD k 0
    rw [addN_eq, mulN_eq]
    congr 1
    omega
  have hwd : Wd (getW W (k : Int)) := hW.getW _
  have hld : Wd (getW l (k : Int)) := hl.getW _
  have hlq : ∀ p ∈ lQ l off k, p := pcs_of ⟨by omega, by omega, by rw [addN_eq]; omega, by rw [addN_eq, mulN_eq]; omega, trivial⟩
  have hhq : ∀ b, (getW W (k : Int) == getW l (k : Int)) = b → ∀ p ∈ hQ c l W off N k b, p := fun b hb => pcs_app (pcs_of ⟨decide_eq_true (by omega), by omega, by omega, by rw [addN_eq, mulN_eq]; omega, ⟨hr, by omega, by omega⟩, trivial⟩) (pcs_app hlq (pcs_of ⟨by rw [eW, eL]; exact hb, trivial⟩))
  have es : w64 ((k : Int) + 1) = ((k + 1 : Nat) : Int) := by rw [w64_in (by omega) (by omega)]; omega
  have z : ∀ j, j < 2 → (rng 0 18).getD j 0 = j := fun j hj => by
    match j, hj with
    | 0, _ => rfl
    | 1, _ => rfl
  have nx : ∀ {ds : List Dec} {G : Fr} {pc : List Prop}, run Er4o 12 (bd fn lp) (rng 0 18) live 2 [] (fr c l off cap h key st pk o N W (brS c h) (k : Int) ds) = some (.normal, G, pc) → G = fr c l off cap h key st pk o N W (brS c h) (w64 ((k : Int) + 1)) [] → (∀ p ∈ pc, p) → CodeC Er4o 2 (bd fn lp) (fr c l off cap h key st pk o N W (brS c h) (k : Int) ds) (fun ex G => ex = .normal ∧ G = fr c l off cap h key st pk o N W (brS c h) ((k + 1 : Nat) : Int) []) := fun hrun hG hpc => by
    subst hG
    rw [es] at hrun
    exact CodeC.of_run Er4ook hrun hpc (show 2 ≤ 18 by omega) z ⟨rfl, rfl⟩
  by_cases he : getW W (k : Int) = getW l (k : Int)
  · exact ⟨_, nx (p_A c l W off cap N h key st (brS c h) pk o k) rfl (hhq true (beq_iff_eq.2 he))⟩
  · have hb := hhq false (beq_false_of_ne he)
    rcases hch k (Int.natCast_nonneg k) he with ⟨h1, h2⟩ | ⟨h1, h2, h3⟩ | ⟨x, h0, h1, h2⟩
    · exact ⟨_, nx (p_B c l W off cap N h key st (brS c h) pk o k) rfl (pcs_app hb (List.forall_mem_cons.2 ⟨atK_true h1, pcs_app hlq (pcs_of ⟨by rw [eL]; exact hld, by rw [eW, eL, h2]; exact bne_self_eq_false _, trivial⟩)⟩))⟩
    · exact ⟨_, nx (p_C c l W off cap N h key st (brS c h) pk o k) rfl (pcs_app hb (List.forall_mem_cons.2 ⟨atK_kind h1 (by decide) _, List.forall_mem_cons.2 ⟨atK_true h1, List.forall_mem_cons.2 ⟨by rw [eW]; exact hwd, pcs_app hlq (List.forall_mem_cons.2 ⟨by rw [eL]; exact hld, List.forall_mem_cons.2 ⟨by rw [eW, eL, h2]; exact bne_self_eq_false _, List.forall_mem_cons.2 ⟨by decide, List.forall_mem_cons.2 ⟨by decide, pcs_app hlq (pcs_of ⟨by decide, by decide, by rw [eW, eL]; exact md_eq hwd hld h3, trivial⟩)⟩⟩⟩⟩)⟩⟩⟩))⟩
    · exact ⟨_, nx (p_D c l W off cap N h key st (brS c h) pk o k) rfl (pcs_app hb (List.forall_mem_cons.2 ⟨atK_kind h1 (by decide) _, List.forall_mem_cons.2 ⟨atK_num h1 h0, List.forall_mem_cons.2 ⟨by rw [(at_cellIx h1 (Int.natCast_nonneg k)).1]; rfl, pcs_app hlq (pcs_of ⟨by rw [eL]; exact hld, by rw [eW, eL, h2]; exact bne_self_eq_false _, trivial⟩)⟩⟩⟩))⟩
open Dec in
theorem main (c : Cfg) (l : List Int) (off cap : Nat) (pk : Pk) (h key st : Int) (hr : c.Right) (hlen : (l.length : Int) = c.len) (hwf : WfW l) (hh : Wd h) :
    CallC Tryz.prog fid (A c l off cap pk h key st) (plHp l off pk) (.bool true) (plHp l off pk) := by
  have m0 : (newM c l).ok := newM_ok hlen
  have g0 : rdGood (rdOf c h key) (newM c l) := ⟨m0, hwf, rdOf_good c hh key⟩
  have g1 : rdGood (R c l h key).2.1 (R c l h key).2.2 := rdRun_good 300 0 _ _ g0
  obtain ⟨a1, a2, a3, a4, a5⟩ := rd_run hr (m := newM c l) rfl m0 h key (N := 300) (by omega) 0
  have a1 : (R c l h key).2.1.dn = true := a1
  have a5 : (R c l h key).2.2.w = (rdWant c l h key).1 := a5
  have hcl := Cfg.len_in hr
  have hN : (R c l h key).2.2.N = l.length := by
    have e1 := g1.1.1
    have e2 := g1.1.2
    rw [show (R c l h key).2.2.c = c from a2] at e2
    omega
  have hNw : (R c l h key).2.2.w.length = l.length := by rw [← hN]; exact g1.1.1.symm
  have hq : ∀ p ∈ q0 c l off h key, p := pcs_of ⟨⟨hr, hlen, rfl, rfl⟩, isNew_ok c hh key, rdP_ok _ _, qRun_ok 300 (by decide) g0, hh, g1.1, trivial⟩
  have hch := fun (p : Int) (p0 : 0 ≤ p) (hne : getW (rdWant c l h key).1 p ≠ getW l p) => rd_only hr hlen hwf h key p0 hne
  rw [← a5] at hch
  refine CallC.of_body (E := Er4o) (ds := []) (fn := fn) 125 (by kernel_rfl) (by kernel_rfl) (by kernel_rfl) (by kernel_rfl) ?_
  refine KC.of_exec (fr := start c l off cap pk h key st [Dec.l, Dec.l]) Er4ook (p_in c l off cap h key st pk) hq (Nat.le_refl _) z2 ?_
  generalize hRo : (R c l h key).2.1 = o at *
  have hWW : WfW (R c l h key).2.2.w := g1.2.1
  generalize (R c l h key).2.2.w = W at *
  generalize (R c l h key).2.2.N = N at *
  show KC Er4o 2 .normal _ (fr c l off cap h key st pk o N W (brS c h) ((0 : Nat) : Int) []) _
  refine KC.loop (m0 := 2) (ι := Nat) (fun x => fr c l off cap h key st pk o N W (brS c h) (x : Int) []) (fun x => x ≤ N) (fun x => N - x)
    (fun ex fr => ex = .exit 0 ∧ fr = frX c l off h key st pk o []) (fun k hk => ?_) ?_ 0 (Nat.zero_le _)
  · by_cases hlt : k < N
    · obtain ⟨ds, hC⟩ := round c l W off cap N h key st pk o hr hlen hwf hWW hN hNw hch k hlt
      have hC' : CodeC Er4o 2 (bd fn lp) (fr c l off cap h key st pk o N W (brS c h) (k : Int) []) _ := hC
      exact hC'.mono fun ex G hG => .inl ⟨hG.1, k + 1, hG.2, hlt, by omega⟩
    · have e : k = N := by omega
      subst e
      exact CodeC.of_run (fr := fr c l off cap h key st pk o k W (brS c h) (k : Int) [f]) Er4ook (p_end c l W off cap k h key st (brS c h) pk o k) (pcs_of ⟨decide_eq_false (by omega), trivial⟩) (show 2 ≤ 18 by omega) z2 (.inr ⟨by simp, rfl, rfl⟩)
  rintro ex fr ⟨rfl, rfl⟩
  refine KC.of_exec (fr := frX c l off h key st pk o [Dec.l]) Er4ook (p_out c l off h key st pk o) (pcs_of ⟨rdP_ok _ _, qAsk_ok g1.2.2, trivial⟩) (show 2 ≤ 17 by omega) z2 (KC.done ?_)
  rw [a1]
  cases pk <;> exact ⟨by simp, [.bool true], [], [0, 1], 2, by kernel_rfl, by simp, by kernel_rfl, rfl, z2⟩
theorem walk (c : Cfg) (v : Value) (l : List Int) (zs : List Int) (sv : Value) (rows : List (List Int)) (w : World) (hl : RowIn .u64 w v l) (hz : zs.length = 3) (hk : ∀ i, i < 3 → (Lit.int (([.u64, .i64, .i64] : List IntKind).getD i .i64) (zs.getD i 0)).wf = true) (hs : RowR pkK w sv rows) :
    Calls Tryz.prog fid #[c.v, v, .agg ⟨rowV [.u64, .i64, .i64] zs ++ [sv]⟩] w fun e w1 => e = .returned (.bool true) ∧ Below w.heap.size w w1 := by
  obtain ⟨h, key, st, rfl⟩ : ∃ a b d, zs = [a, b, d] := by
    match zs, hz with
    | [a, b, d], _ => exact ⟨a, b, d, rfl⟩
  have hh : Wd h := bounds_u64 (hk 0 (by decide))
  exact law_play2 (E' := Er4o) Er4ok rfl hl hs (fun hr hlen off cap pk _ => ⟨_, main c l off cap pk h key st hr hlen (row_wf hl) hh⟩)
    (fun hr a m cap pk => ⟨_, _, p_nr c cap h key st pk a m, pcs_of ⟨by simp [rightB, hr], isNew_ok c hh key, trivial⟩⟩)
    (fun hr a m cap pk hlen => ⟨_, _, p_nl c cap h key st pk a m, pcs_of ⟨by simp [rightB, hr], hr, by simpa using hlen, isNew_ok c hh key, trivial⟩⟩)
end Go.Proofs.YtmpidecpfcikoaaGreat.ReadOnlyDone
