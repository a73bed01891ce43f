/- What 'ReadOrder' comes to, of any input. -/
import Derived.Test.YtmpidecpfcikoaaGreatLwReadOrderV
import Derived.Test.YtmpidecpfcikoaaGreatCtReadX
namespace Go.Proofs.YtmpidecpfcikoaaGreat.ReadOrderDone
open Go Go.Proofs Go.Proofs.YtmpidecpfcikoaaGreat.Ev Go.Proofs.YtmpidecpfcikoaaGreat.Ct
open Go.RowKit

theorem z2L : ∀ k, k < 2 → ([0, 1] : List Nat).getD k 0 = k := fun k hk => by
  match k, hk with
  | 0, _ => rfl
  | 1, _ => rfl
theorem main (c : Cfg) (l : List Int) (off cap : Nat) (pk : Pk) (h key st : Int) (hr : c.Right) (hlen : (l.length : Int) = c.len) (hwf : WfW l) (hh : Wd h) :
    CallC Tryz.prog fid (A c l off cap pk h key st) (plHp l off pk) (.bool true) (plHp l off pk) := by
  have hcl := Cfg.len_in hr
  have hq1 : q1 c l off := ⟨hr, hlen, rfl, rfl⟩
  by_cases k0 : key < 0
  · exact CallC.of_call Er4ook (p_k0 c l off cap pk h key st) (pcs_of ⟨hq1, hq1, decide_eq_true k0, trivial⟩) rfl z2L
  by_cases k1 : key ≥ c.k
  · exact CallC.of_call Er4ook (p_k1 c l off cap pk h key st) (pcs_of ⟨hq1, hq1, decide_eq_false k0, decide_eq_true k1, trivial⟩) rfl z2L
  have ht := p_tt c l off cap pk h key st
  have htf := p_tf c l off cap pk h key st
  have hft := p_ft c l off cap pk h key st
  have hff := p_ff c l off cap pk h key st
  have hk8 : 1 ≤ c.k ∧ c.k ≤ 8 := ⟨hr.2.2.2.2.1, hr.2.2.2.2.2.1⟩
  have ek : w64 (c.k - 1) = c.k - 1 := w64_in (by omega) (by omega)
  rw [ek] at ht htf hft hff
  obtain ⟨k2, hk2⟩ : ∃ k2, c.k - 1 = k2 := ⟨_, rfl⟩
  rw [hk2] at ht htf hft hff
  have b0 : 0 ≤ k2 := by omega
  have b1 : k2 < c.k := by omega
  have a0 : 0 ≤ key := by omega
  have a1 : key < c.k := by omega
  have m0 : (newM c l).ok := newM_ok hlen
  have ga : ∀ k, rdGood (rdOf c h k) (newM c l) := fun k => ⟨m0, hwf, rdOf_good c hh k⟩
  have gA : ∀ k, rdGood (Ra c l h k).2.1 (Ra c l h k).2.2 := fun k => rdRun_good 300 0 _ _ (ga k)
  have gb : ∀ k k', rdGood (rdOf c h k') (Ra c l h k).2.2 := fun k k' => ⟨(gA k).1, (gA k).2.1, rdOf_good c hh k'⟩
  have gB : ∀ k k', rdGood (Rb c l h k k').2.1 (Rb c l h k k').2.2 := fun k k' => rdRun_good 300 0 _ _ (gb k k')
  have rA : ∀ k, (Ra c l h k).2.2.c = c ∧ (Ra c l h k).2.1.no = (rdWant c l h k).2 ∧ (Ra c l h k).2.2.w = (rdWant c l h k).1 := fun k => by
    obtain ⟨_, a2, _, a4, a5⟩ := rd_run hr (m := newM c l) rfl m0 h k (N := 300) (by omega) 0
    exact ⟨a2, a4, a5⟩
  have rB : ∀ k k', (Rb c l h k k').2.2.c = c ∧ (Rb c l h k k').2.1.no = (rdWant c (rdWant c l h k).1 h k').2 ∧ (Rb c l h k k').2.2.w = (rdWant c (rdWant c l h k).1 h k').1 := fun k k' => by
    obtain ⟨_, b2, _, b4, b5⟩ := rd_run hr (m := (Ra c l h k).2.2) (rA k).1 (gA k).1 h k' (N := 300) (by omega) 0
    rw [(rA k).2.2] at b4 b5
    exact ⟨b2, b4, b5⟩
  have hq : ∀ p ∈ q0 c l off h key k2, p := pcs_of ⟨hq1, hq1, decide_eq_false k0, decide_eq_false k1, isNew_ok c hh key, isNew_ok c hh k2, isNew_ok c hh k2, isNew_ok c hh key, rdP_ok _ _, qRun_ok 300 (by decide) (ga key), rdP_ok _ _, qRun_ok 300 (by decide) (gb key k2), rdP_ok _ _, qRun_ok 300 (by decide) (ga k2), rdP_ok _ _, qRun_ok 300 (by decide) (gb k2 key), rdP_ok _ _, qAsk_ok (gA key).2.2, trivial⟩
  have hB : ∀ p ∈ qB c l h key k2, p := pcs_of ⟨rdP_ok _ _, qAsk_ok (gB key k2).2.2, trivial⟩
  have hY : ∀ p ∈ qY c l h key k2, p := pcs_of ⟨rdP_ok _ _, qAsk_ok (gB k2 key).2.2, trivial⟩
  have hX : ∀ b, ((Ra c l h k2).2.1.no == 0) = b → ∀ p ∈ qX c l h k2 b, p := fun b hb => pcs_of ⟨rdP_ok _ _, qAsk_ok (gA k2).2.2, hb, trivial⟩
  have s1 : (Ra c l h key).2.1.no = 0 → ((Rb c l h key k2).2.1.no = 0 ↔ (Ra c l h k2).2.1.no = 0) := fun hz => by
    rw [(rB key k2).2.1, (rA k2).2.1]
    exact want_second hr hlen hwf h a0 a1 b0 b1 ((rA key).2.1.symm.trans hz)
  have s2 : (Ra c l h k2).2.1.no = 0 → ((Rb c l h k2 key).2.1.no = 0 ↔ (Ra c l h key).2.1.no = 0) := fun hz => by
    rw [(rB k2 key).2.1, (rA key).2.1]
    exact want_second hr hlen hwf h b0 b1 a0 a1 ((rA k2).2.1.symm.trans hz)
  by_cases hA : (Ra c l h key).2.1.no = 0
  · by_cases hXz : (Ra c l h k2).2.1.no = 0
    · have hBz := (s1 hA).2 hXz
      have hYz := (s2 hXz).2 hA
      have hw := want_words hr hlen hwf h a0 a1 b0 b1 ((rA key).2.1.symm.trans hA) ((rA k2).2.1.symm.trans hXz)
      have hN : ∀ k k', (Rb c l h k k').2.2.N = l.length := fun k k' => by
        have e1 := (gB k k').1.1
        have e2 := (gB k k').1.2
        rw [(rB k k').1] at e2
        omega
      have hs : same c l h key k2 = true := by
        unfold same
        rw [hN, hN, (rB key k2).2.2, (rB k2 key).2.2, hw]
        exact beq_self_eq_true _
      have := CallC.of_call Er4ook ht (pcs_app hq (List.forall_mem_cons.2 ⟨by rw [hA]; rfl, pcs_app hB (pcs_app (hX true (by rw [hXz]; rfl)) (pcs_app hY (List.forall_mem_cons.2 ⟨by rw [hBz, hYz]; rfl, List.forall_mem_cons.2 ⟨by rw [hBz]; rfl, pcs_of ⟨(gB key k2).1, (gB k2 key).1, rfl, rfl, Nat.le_of_eq (gB key k2).1.1, Nat.le_of_eq (gB k2 key).1.1, by rw [hN]; omega, trivial⟩⟩⟩)))⟩)) rfl z2L
      rw [hs] at this
      exact this
    · have hBz : ((Rb c l h key k2).2.1.no == 0) = false := beq_false_of_ne fun e => hXz ((s1 hA).1 e)
      exact CallC.of_call Er4ook htf (pcs_app hq (List.forall_mem_cons.2 ⟨by rw [hA]; rfl, pcs_app hB (pcs_app (hX false (beq_false_of_ne hXz)) (pcs_of ⟨by rw [hBz]; rfl, by rw [hBz]; rfl, trivial⟩))⟩)) rfl z2L
  · by_cases hXz : (Ra c l h k2).2.1.no = 0
    · have hYz : ((Rb c l h k2 key).2.1.no == 0) = false := beq_false_of_ne fun e => hA ((s2 hXz).1 e)
      exact CallC.of_call Er4ook hft (pcs_app hq (List.forall_mem_cons.2 ⟨beq_false_of_ne hA, pcs_app (hX true (by rw [hXz]; rfl)) (pcs_app hY (pcs_of ⟨by rw [hYz]; rfl, trivial⟩))⟩)) rfl z2L
    · exact CallC.of_call Er4ook hff (pcs_app hq (List.forall_mem_cons.2 ⟨beq_false_of_ne hA, hX false (beq_false_of_ne hXz)⟩)) rfl z2L
theorem walk (c : Cfg) (v : Value) (l : List Int) (zs : List Int) (sv : Value) (rows : List (List Int)) (w : World) (hl : RowIn .u64 w v l) (hz : zs.length = 3) (hk : ∀ i, i < 3 → (Lit.int (([.u64, .i64, .i64] : List IntKind).getD i .i64) (zs.getD i 0)).wf = true) (hs : RowR pkK w sv rows) :
    Calls Tryz.prog fid #[c.v, v, .agg ⟨rowV [.u64, .i64, .i64] zs ++ [sv]⟩] w fun e w1 => e = .returned (.bool true) ∧ Below w.heap.size w w1 := by
  obtain ⟨h, key, st, rfl⟩ : ∃ a b d, zs = [a, b, d] := by
    match zs, hz with
    | [a, b, d], _ => exact ⟨a, b, d, rfl⟩
  have hh : Wd h := bounds_u64 (hk 0 (by decide))
  exact law_play2 (E' := Er4o) Er4ok rfl hl hs (fun hr hlen off cap pk _ => ⟨_, main c l off cap pk h key st hr hlen (row_wf hl) hh⟩)
    (fun hr a m cap pk => ⟨_, _, p_nr c cap pk h key st a m, pcs_of ⟨by simp [rightB, hr], by simp [rightB, hr], trivial⟩⟩)
    (fun hr a m cap pk hlen => ⟨_, _, p_nl c cap pk h key st a m, pcs_of ⟨by simp [rightB, hr], hr, by simpa using hlen, by simp [rightB, hr], hr, by simpa using hlen, trivial⟩⟩)
end Go.Proofs.YtmpidecpfcikoaaGreat.ReadOrderDone
