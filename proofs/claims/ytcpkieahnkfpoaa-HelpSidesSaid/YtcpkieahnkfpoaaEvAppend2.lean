/- Operations, guarded and not, and rows of them do what the evaluator says. -/
import Derived.Test.YtcpkieahnkfpoaaEvAppend
namespace Go.Proofs.Ytcpkieahnkfpoaa.Ev
open Go Go.RowKit

section
variable {E : Env} {S : Nat → Prop} {ρ : Nat → Nat} {hp : Hp} {w : World}

theorem sound_append {t type : TypeId} {x y x' y' : Value} {ds : List Dec} {out : Out} (h : aappend E t x y hp ds = some out) (hpc : ∀ p ∈ out.pc, p)
    (hx : VR S ρ x x') (hy : VR S ρ y y') (hH : HR S ρ hp w) (hF : NF S hp out.hp) : ∃ u w1, (Builtin.append_ #[t, t] type #[x', y']).run E.P w = .ok u w1 ∧ Res S ρ hp w out.v out.hp u w1 := by
  unfold aappend at h
  split at h
  · rename_i e sz hs
    obtain ⟨i, hu, hi, hsz⟩ := elemSz_some hs
    split at h
    · rename_i kn hkn
      cases hks : Nat.beq kn.2.length sz
      · simp only [hks, cond_false, reduceCtorEq] at h
      · simp only [hks, cond_true] at h
        split at h
        · rename_i j hj
          rw [hi] at hj
          obtain rfl := Option.some.inj hj
          split at h
          · rename_i zc hzc
            obtain ⟨i', zv, hi', hz, hzc', hclo⟩ := zcells_some hzc
            rw [hi] at hi'
            obtain rfl := Option.some.inj hi'
            cases hzl : Nat.beq zc.length sz
            · simp only [hzl, Bool.not_false, cond_true, reduceCtorEq] at h
            · simp only [hzl, Bool.not_true, cond_false] at h
              split at h
              · rename_i ns len b pcb s m b' pcs lit hb hsrc
                split at h
                · rename_i b2 hcat
                  cases hck : (!(has s ns) && (lit || !(ns.isEmpty)) && Nat.beq b.esz sz && Nat.beq b'.esz sz && Nat.blt 0 sz)
                  · simp only [hck, cond_false, reduceCtorEq] at h
                  · simp only [hck, cond_true, Option.some.injEq] at h
                    subst h
                    simp only [Bool.and_eq_true, Bool.not_eq_true', Bool.or_eq_true] at hck
                    obtain ⟨⟨⟨⟨hsn, hlit⟩, he1⟩, he2⟩, hpos⟩ := hck
                    have he1 := beq_nat he1
                    have he2 := beq_nat he2
                    have hpos : 0 < sz := by simp [Nat.blt] at hpos; omega
                    obtain ⟨hbp, hbp', hbp2, hrow, hesz, hlen2, hty2⟩ := catB_some hcat
                    simp only [List.mem_append] at hpc
                    obtain ⟨hlen, hty, hown, hbase⟩ := appBase_some hb (fun p hp => hpc p (.inl (.inl hp))) hx hH hbp
                    obtain ⟨hm, hlitm, so, c, rfl, hnews⟩ := appSrc_some hsrc (fun p hp => hpc p (.inl (.inr hp))) hy hH
                    have hb1 : (len + m) * i.bytes ≤ 140737488355328 := hpc _ (.inr (by simp))
                    have hb2 : len + m ≤ 9223372036854775807 := hpc _ (.inr (by simp))
                    have hnl : b'.row.length = m * sz := by rw [row_length hbp', hm, he2]
                    rw [he1] at hown
                    have hne : x' ≠ .slice none 0 0 ∨ 0 < m := by
                      rcases hbase with ⟨rfl, _⟩ | ⟨n, b0, rfl, _, c0, _, rfl⟩
                      · rcases hlit with hl | hl
                        · exact .inr (hlitm hl)
                        · simp at hl
                      · exact .inl (by simp)
                    obtain ⟨g', cap', w', hr, hown', hgr, hg'⟩ := append_run (E := E) (ty := type) hu hi hz hsz (by rw [cells_eq, hzc']; exact beq_nat hzl) hpos hown hnl hnews row_oneCell hb2 hb1 hne
                    refine ⟨_, w', hr, ?_⟩
                    let ρ1 : Nat → Nat := fun k => if k = hp.next then g' else if k = hp.next + 1 then cap' else ρ k
                    have hS0 : ¬ S hp.next := hF hp.next (Nat.le_refl _) (by simp)
                    have hS1 : ¬ S (hp.next + 1) := hF (hp.next + 1) (by omega) (by simp)
                    have r0 : ρ1 hp.next = g' := if_pos rfl
                    have r1 : ρ1 (hp.next + 1) = cap' := by show (if _ then _ else _) = _; rw [if_neg (by omega), if_pos rfl]
                    have r2 : ∀ k, S k → ρ1 k = ρ k := fun k hk => by
                      show (if _ then _ else _) = _
                      rw [if_neg (fun (e : k = hp.next) => hS0 (e ▸ hk)), if_neg (fun (e : k = hp.next + 1) => hS1 (e ▸ hk))]
                    let hp1 : Hp := ⟨(hp.next, .own b2 (hp.next + 1)) :: delB ns hp.blks, hp.next + 2, ns ++ hp.log⟩
                    have hget : ∀ k c, hp1.get k = some c → (k = hp.next ∧ c = .own b2 (hp.next + 1)) ∨ (k ≠ hp.next ∧ has k ns = false ∧ hp.get k = some c) := fun k c hc => by
                      simp only [hp1, Hp.get, lookB, lookB_del] at hc
                      cases hk : Nat.beq hp.next k
                      · simp only [hk, cond_false] at hc
                        split at hc
                        · cases hc
                        · rename_i hn
                          exact .inr ⟨(bne_nat hk).symm, by simpa using hn, hc⟩
                      · simp only [hk, cond_true, Option.some.injEq] at hc
                        exact .inl ⟨(beq_nat hk).symm, hc.symm⟩
                    have s0 : SN S hp hp1 hp.next := .inr ⟨Nat.le_refl _, by simp [hp1]⟩
                    have s1 : SN S hp hp1 (hp.next + 1) := .inr ⟨by omega, by simp [hp1]⟩
                    have hother : ∀ k c, has k ns = false → hp.get k = some c → some (ρ k) ≠ x'.ownBlock := fun k c hk hc => by
                      rcases hbase with ⟨rfl, rfl⟩ | ⟨n, b0, rfl, hn, c0, hnv, rfl⟩
                      · simp [Value.ownBlock]
                      · simp only [Value.ownBlock, ne_eq, Option.some.injEq]
                        intro e
                        rcases hH.inj k n c b0 hc hn e with h | ⟨_, h⟩
                        · subst h
                          simp [has] at hk
                        · rw [hnv] at h; cases h
                    refine ⟨ρ1, r2, ⟨fun ρ' ha k c hc => ?_, fun k c hc => ?_, fun k k' c c' hc hc' he => ?_⟩, fun ρ' ha => ?_, ⟨hgr.os, hgr.tape, hgr.output, hgr.size, fun k hk hn => ?_, fun k c hc => ?_⟩⟩
                    · have haS : Ag S ρ ρ' := fun k hk => (ha k (.inl hk)).trans (r2 k hk)
                      rcases hget k c hc with ⟨rfl, rfl⟩ | ⟨hk, hkn, hc⟩
                      · rw [r0]
                        obtain ⟨_, hcase⟩ := hown'
                        rcases hcase with ⟨e, _⟩ | ⟨g2, cap2, cur, e, _, hh, hle, hmx, hcs, htk⟩
                        · cases e
                        · injection e with e1 _ e2
                          injection e1 with e1
                          injection e1 with e1
                          subst e1
                          subst e2
                          have hρ : ρ' (hp.next + 1) = cap' := (ha _ s1).trans r1
                          refine ⟨_, hh, (Blk.sat_plain hbp2).2 ⟨cur.toList.drop ((len + m) * sz), ?_⟩, ?_, ?_, ?_⟩
                          · rw [hrow, ← htk, List.take_append_drop, hty2, hty]
                          · rw [hρ, hesz, he1]; exact hcs
                          · rw [hρ, hlen2]; omega
                          · rw [hρ]; exact hmx
                      · obtain ⟨o, ho, hs'⟩ := hH.sat ρ' haS k c hc
                        refine ⟨o, ?_, hs'⟩
                        rw [r2 k (hH.dom k c hc), hgr.block _ (hH.lt hc) (hother k c hkn hc)]
                        exact ho
                    · rcases hget k c hc with ⟨rfl, rfl⟩ | ⟨hk, hkn, hc⟩
                      · exact s0
                      · exact .inl (hH.dom k c hc)
                    · have cross : ∀ k c, has k ns = false → hp.get k = some c → ρ k ≠ g' := fun k c hkn hc e => by
                        rcases hg' with hg' | hg'
                        · exact hother k c hkn hc (by rw [e, hg'])
                        · have := hH.lt hc; omega
                      rcases hget k c hc with ⟨rfl, rfl⟩ | ⟨hk, hkn, hc⟩ <;> rcases hget k' c' hc' with ⟨rfl, rfl⟩ | ⟨hk', hkn', hc'⟩
                      · exact .inl rfl
                      · rw [r0, r2 k' (hH.dom k' c' hc')] at he
                        exact absurd he.symm (cross k' c' hkn' hc')
                      · rw [r0, r2 k (hH.dom k c hc)] at he
                        exact absurd he (cross k c hkn hc)
                      · rw [r2 k (hH.dom k c hc), r2 k' (hH.dom k' c' hc')] at he
                        exact hH.inj k k' c c' hc hc' he
                    · have e0 : ρ' hp.next = g' := (ha _ s0).trans r0
                      have e1 : ρ' (hp.next + 1) = cap' := (ha _ s1).trans r1
                      simp [ren, renAddr, e0, e1, addN_eq]
                    · refine hgr.block k hk ?_
                      rcases hbase with ⟨rfl, rfl⟩ | ⟨n, b0, rfl, hn', c0, hnv, rfl⟩
                      · simp [Value.ownBlock]
                      · simp only [Value.ownBlock, ne_eq, Option.some.injEq]
                        exact fun e => hn n b0 hn' hnv e.symm
                    · rcases hget k c hc with ⟨rfl, rfl⟩ | ⟨hk, hkn, hc⟩
                      · rw [r0]
                        rcases hg' with hg' | hg'
                        · rcases hbase with ⟨rfl, rfl⟩ | ⟨n, b0, rfl, hn', c0, hnv, rfl⟩
                          · simp [Value.ownBlock] at hg'
                          · simp only [Value.ownBlock, Option.some.injEq] at hg'
                            exact .inl ⟨n, b0, hn', hnv, hg'.symm⟩
                        · exact .inr hg'
                      · exact .inl ⟨k, c, hc, rfl, r2 k (hH.dom k c hc)⟩
                · cases h
              · cases h
          · cases h
        · cases h
    · cases h
  · cases h
end
end Go.Proofs.Ytcpkieahnkfpoaa.Ev
