/- What a call is handed, as data that the evaluator knows: a struct of numbers, and a row of records at its end. -/
import Derived.Test.YtcpkieahnkfpoaaEvOpen2
namespace Go.Proofs.Ytcpkieahnkfpoaa.Ev
open Go Go.RowKit

theorem open_play {P : Program} {H : Type} {enc : TypeId × Value → H} {w : World} {base : Nat} {r : Reach} {b0 : Nat} {t st e : TypeId} {fs fe : Array Field} {ks kk : List IntKind} {ts : List TypeId} {v : Value} {d : DataW H} {p : List MemPlace} (ht : P.underlying t = some (.struct fs))
    (hn : P.cellsOf t = ks.length + 1) (hfs : ∀ i, i < ks.length → ∃ f, fs[i]? = some f ∧ f.offset = i ∧ P.cellsOf f.type = 1 ∧ P.underlying f.type = some (.int (ks.getD i .i64)))
    (hl : ∃ f, fs[ks.length]? = some f ∧ f.offset = ks.length ∧ P.cellsOf f.type = 1 ∧ f.type = st) (hts : P.cellTypes P.depth t = some ts) (htl : ts.length = ks.length + 1) (hte : ts[ks.length]? = some st)
    (hst : P.underlying st = some (.slice e)) (he : P.underlying e = some (.struct fe)) (hne : P.cellsOf e = kk.length) (hfe : ∀ i, i < kk.length → ∃ f, fe[i]? = some f ∧ f.offset = i ∧ P.cellsOf f.type = 1 ∧ P.underlying f.type = some (.int (kk.getD i .i64)))
    (hv : Value.okWide P w r b0 t v) (h : DataW.Trod enc P w base (fun _ => true) true t v d p) :
    ∃ (zs : List Int) (sv : Value) (rows : List (List Int)), zs.length = ks.length ∧ v = .agg ⟨rowV ks zs ++ [sv]⟩ ∧ (∀ i, i < ks.length → (Lit.int (ks.getD i .i64) (zs.getD i 0)).wf = true) ∧ RowR kk w sv rows := by
  obtain ⟨cs, rfl, hsz⟩ := Go.WideShapes.okWide_struct ht hv
  obtain ⟨fuel, hf⟩ := h
  obtain ⟨xs, m, _, _, _, hxl, hx⟩ := DataW.trod_struct ht hf
  obtain ⟨cs⟩ := cs
  have hcs : cs.length = ks.length + 1 := by rw [← hn]; exact hsz
  have key : ∀ i, i < ks.length → ∃ n, cs[i]? = some (.int (ks.getD i .i64) n) ∧ (Lit.int (ks.getD i .i64) n).wf = true := fun i hi => by
    obtain ⟨f, hfi, ho, hc, hu⟩ := hfs i hi
    have hxi : i < xs.length := by rw [hxl]; exact (Array.getElem?_eq_some_iff.1 hfi).1
    have h1 := hx i f hfi
    rw [List.getElem?_eq_getElem hxi] at h1
    obtain ⟨n, hn', _, hw⟩ := DataW.trod_int hu h1
    rw [ho, hc] at hn'
    refine ⟨n, ?_, hw⟩
    have h2 : ((cs.drop i).take 1)[0]? = some (.int (ks.getD i .i64) n) := by
      have : (Value.agg ⟨cs⟩).cells.toList = cs := rfl
      rw [this] at hn'
      rw [hn']; rfl
    rw [List.getElem?_take, if_pos (by omega), List.getElem?_drop] at h2
    simpa using h2
  obtain ⟨f, hfi, ho, hc, rfl⟩ := hl
  have hlt : ks.length < cs.length := by omega
  have hxi : ks.length < xs.length := by rw [hxl]; exact (Array.getElem?_eq_some_iff.1 hfi).1
  have h1 := hx _ f hfi
  rw [List.getElem?_eq_getElem hxi] at h1
  have hcell : ((Value.agg ⟨cs⟩).cells.toList.drop f.offset).take (P.cellsOf f.type) = [cs[ks.length]] := by
    have : (Value.agg ⟨cs⟩).cells.toList = cs := rfl
    rw [this, ho, hc]
    apply List.ext_getElem?
    intro i
    rw [List.getElem?_take]
    split
    · rename_i h
      have : i = 0 := by omega
      subst this
      rw [List.getElem?_drop]
      simp [List.getElem?_eq_getElem hlt]
    · rename_i h
      rw [List.getElem?_eq_none (by simp; omega)]
  rw [hcell] at h1
  have hok : Cell.okWide P w r b0 f.type cs[ks.length] := by
    simp only [Value.okWide, ht] at hv
    obtain ⟨cs', e1, _, ts', q1, _, q3⟩ := hv
    injection e1 with e1
    subst e1
    rw [hts] at q1
    obtain rfl := Option.some.inj q1
    obtain ⟨u, u1, u2⟩ := q3 ks.length cs[ks.length] (by simp [List.getElem?_eq_getElem hlt])
    rw [htl, Nat.mod_eq_of_lt (by omega), hte] at u1
    obtain rfl := Option.some.inj u1
    exact u2
  obtain ⟨rows, hrows⟩ := open_recs' hst he hne hfe hok h1
  refine ⟨(cs.take ks.length).map num, cs[ks.length], rows, by rw [List.length_map, List.length_take]; omega, ?_, fun i hi => ?_, hrows⟩
  · have e := rowV_num (cs.take ks.length) ks (by rw [List.length_take]; omega) fun i hi => (key i hi).imp fun n h => by rw [List.getElem?_take, if_pos hi]; exact h.1
    rw [← e]
    congr 2
    apply List.ext_getElem?
    intro i
    rw [List.getElem?_append, List.getElem?_take, List.length_take]
    split
    · rename_i h
      rw [if_pos (by omega)]
    · rename_i h
      by_cases hi : i = ks.length
      · subst hi
        rw [show ks.length - min ks.length cs.length = 0 by omega]
        simp [List.getElem?_eq_getElem hlt]
      · rw [List.getElem?_eq_none (by omega), List.getElem?_eq_none (by simp; omega)]
  · obtain ⟨n, h1, h2⟩ := key i hi
    rw [List.getD_eq_getElem?_getD (l := (cs.take ks.length).map num), List.getElem?_map, List.getElem?_take, if_pos hi, h1]
    exact h2
end Go.Proofs.Ytcpkieahnkfpoaa.Ev
