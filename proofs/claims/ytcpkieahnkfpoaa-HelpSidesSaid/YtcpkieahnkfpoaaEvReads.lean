/- A call that only reads rows that are there already. -/
import Derived.Test.YtcpkieahnkfpoaaEvStack
namespace Go.Proofs.Ytcpkieahnkfpoaa.Ev
open Go Go.RowKit

/-- What a call comes to that is handed rows as views, in any heap in which these rows stand. -/
theorem reads_ok {P : Program} {f : FuncId} {args : List Value} {hp : Hp} {v : Value} {pc : List Prop} (hent : Enters P f) (hv : clo v = true) (L : List Nat)
    (H : (∀ p ∈ pc, p) → ∀ (S : Nat → Prop) (ρ : Nat → Nat) (cargs : List Value), VRL S ρ args cargs → ∃ args0 hp0 out0, CallC P f args0 hp0 v out0 ∧ cargs = args0.map (ren fun k => ρ (L.getD k 0)) ∧ (∀ k ∈ nmL args0, k < hp0.next) ∧
      ∀ n b, hp0.get n = some b → n < hp0.next ∧ b.isV = true ∧ ∃ b', hp.get (L.getD n 0) = some b' ∧ ∀ ρ' o, b'.sat ρ' o → ∀ ρ'', b.sat ρ'' o) (ds : List Dec) : CallOk P f args hp ⟨v, hp, ds, pc⟩ := by
  refine ⟨Keep.refl _, hent, fun hpc S ρ w cargs hargs hH _ => ?_⟩
  obtain ⟨args0, hp0, out0, hC, hc, hnm, hblk⟩ := H hpc S ρ cargs hargs
  refine (hC.2 (fun k => ρ (L.getD k 0)) w cargs (fun ρ' ha => ?_) ⟨fun ρ' _ n b hb => ?_, fun n b hb => (hblk n b hb).1, fun n m b c hb hc _ => .inr ⟨(hblk n b hb).2.1, (hblk m c hc).2.1⟩⟩).mono fun e w1 he => ?_
  · rw [hc, ← renL_map, ← renL_map]
    exact (renL_congr args0 fun k hk => ha k (hnm k hk)).symm
  · obtain ⟨_, _, b', hb', hs⟩ := hblk n b hb
    obtain ⟨o, ho, hso⟩ := hH.sat ρ (Ag.refl _ _) _ _ hb'
    exact ⟨o, ho, hs ρ o hso ρ'⟩
  · obtain ⟨u, ρ1, rfl, _, _, hu, hfr⟩ := he
    have hu' : u = v := by rw [hu.self, ren_clo ρ1 hv]
    subst hu'
    have hold : ∀ k, k < w.heap.size → w1.heap[k]? = w.heap[k]? := fun k hk => hfr.old k hk fun n b hb hv' => by
      rw [(hblk n b hb).2.1] at hv'; cases hv'
    refine ⟨u, rfl, ρ, Ag.refl _ _, ⟨fun ρ' ha n b hb => ?_, fun n b hb => .inl (hH.dom n b hb), hH.inj⟩, VR.clo hv, ⟨hfr.os, hfr.tape, hfr.output, hfr.size, fun k hk _ => hold k hk, fun n b hb => .inl ⟨n, b, hb, rfl, rfl⟩⟩⟩
    obtain ⟨o, ho, hs⟩ := hH.sat ρ' (fun k hk => ha k (.inl hk)) n b hb
    exact ⟨o, by rw [hold _ (hH.lt hb)]; exact ho, hs⟩
/-- A row of numbers, seen from where it begins. -/
theorem rowI_view {b : Blk} {so : Nat} {k : IntKind} {l : List Int} {q : Prop} (h : rowI so b = some (k, l, q)) (hq : q) (n : Nat) {ty : TypeId} {ρ' : Nat → Nat} {o : Obj} (hs : b.sat ρ' o) (ρ'' : Nat → Nat) : (Blk.view so (.ints k (l.take n) ty)).sat ρ'' o := by
  obtain ⟨cells, ty', fr, rfl, hc⟩ := Blk.sat_row h hq hs
  refine ⟨cells, ty', fr, rfl, fun j v hv => ?_⟩
  simp only [Blk.rowW, List.getElem?_map, List.getElem?_take] at hv
  split at hv
  · exact hc j v (by rw [List.getElem?_map]; exact hv)
  · cases hv
end Go.Proofs.Ytcpkieahnkfpoaa.Ev
