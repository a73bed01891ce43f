/- A result under other names: two names may stand for one row that is only read. -/
import Derived.Test.YtcpkieahnkfpoaaEvReads
namespace Go.Proofs.Ytcpkieahnkfpoaa.Ev
open Go Go.RowKit

theorem CallC.alias {P : Program} {f : FuncId} {args : List Value} {hp hp1 hp1' : Hp} {v v' : Value} (h : CallC P f args hp v hp1) (hvw : ∀ n b, hp.get n = some b → b.isV = true) (L : List Nat) (hid : ∀ k, k < hp.next → L.getD k 0 = k) (hv : v = rn (fun k => L.getD k 0) v') (hnm : ∀ k ∈ nm v', k < hp1'.next)
    (hblk : ∀ n b', hp1'.get n = some b' → n < hp1'.next ∧ b'.isV = true ∧ ∃ b, hp1.get (L.getD n 0) = some b ∧ ∀ ρ o, b.sat ρ o → ∀ ρ'', b'.sat ρ'' o) : CallC P f args hp v' hp1' := by
  refine ⟨h.1, fun ρ w cargs ha hH => (h.2 ρ w cargs ha hH).mono fun e w1 he => ?_⟩
  obtain ⟨u, ρ1, rfl, hag, hH1, hV, hF⟩ := he
  refine ⟨u, fun k => ρ1 (L.getD k 0), rfl, fun k hk => ?_, ⟨fun ρ' _ n b hb => ?_, fun n b hb => (hblk n b hb).1, fun n m b c hb hc _ => .inr ⟨(hblk n b hb).2.1, (hblk m c hc).2.1⟩⟩, fun ρ' ha' => ?_, ⟨hF.os, hF.tape, hF.output, hF.size, hF.old, fun n b hb => ?_⟩⟩
  · simp only [hid k hk]
    exact hag k hk
  · obtain ⟨_, _, b0, hb0, hs⟩ := hblk n b hb
    obtain ⟨o, ho, hso⟩ := hH1.sat ρ1 (Ag.refl _ _) _ _ hb0
    exact ⟨o, ho, hs ρ1 o hso ρ'⟩
  · rw [hV.self, hv, ren_rn]
    exact ren_congr v' fun k hk => (ha' k (hnm k hk)).symm
  · obtain ⟨_, hb', b0, hb0, _⟩ := hblk n b hb
    rcases hF.new _ b0 hb0 with ⟨m, c, hm, _, e⟩ | e
    · exact .inl ⟨m, c, hm, by rw [hb', hvw m c hm], e⟩
    · exact .inr e
/-- A row that is one's own, seen as one that is only read. -/
theorem own_view {k : IntKind} {l : List Int} {ty : TypeId} {c : Nat} (ρ : Nat → Nat) (o : Obj) (h : (Blk.own (.ints k l ty) c).sat ρ o) (ρ'' : Nat → Nat) : (Blk.view 0 (.ints k l ty)).sat ρ'' o := by
  have h1 : rowI 0 (Blk.own (.ints k l ty) c) = some (k, l, 0 = 0) := rfl
  have := rowI_view h1 rfl l.length (ty := ty) h ρ''
  rwa [List.take_length] at this
theorem view_view {k : IntKind} {l : List Int} {ty : TypeId} {off : Nat} (ρ : Nat → Nat) (o : Obj) (h : (Blk.view off (.ints k l ty)).sat ρ o) (ρ'' : Nat → Nat) : (Blk.view off (.ints k l ty)).sat ρ'' o := h
/-- Of rows that were made, it may be told only what is read in them. -/
theorem CallC.soft {P : Program} {f : FuncId} {args : List Value} {hp hp1 hp1' : Hp} {v : Value} (h : CallC P f args hp v hp1) (hvw : ∀ n b, hp.get n = some b → b.isV = true) (hnext : hp1'.next = hp1.next)
    (hblk : ∀ n b', hp1'.get n = some b' → ∃ b, hp1.get n = some b ∧ (b' = b ∨ (b.isV = false ∧ b'.isV = true ∧ ∀ ρ o, b.sat ρ o → ∀ ρ'', b'.sat ρ'' o))) : CallC P f args hp v hp1' := by
  refine ⟨h.1, fun ρ w cargs ha hH => (h.2 ρ w cargs ha hH).mono fun e w1 he => ?_⟩
  obtain ⟨u, ρ1, rfl, hag, hH1, hV, hF⟩ := he
  refine ⟨u, ρ1, rfl, hag, ⟨fun ρ' ha' n b hb => ?_, fun n b hb => ?_, fun n m b c hb hc he => ?_⟩, by rw [hnext]; exact hV, ⟨hF.os, hF.tape, hF.output, hF.size, hF.old, fun n b hb => ?_⟩⟩
  · obtain ⟨b0, hb0, hor⟩ := hblk n b hb
    obtain ⟨o, ho, hso⟩ := hH1.sat ρ' (by rw [hnext] at ha'; exact ha') _ _ hb0
    refine ⟨o, ho, ?_⟩
    rcases hor with rfl | ⟨_, _, hs⟩
    · exact hso
    · exact hs ρ' o hso ρ'
  · obtain ⟨b0, hb0, _⟩ := hblk n b hb
    rw [hnext]
    exact hH1.dom _ _ hb0
  · obtain ⟨b0, hb0, hor⟩ := hblk n b hb
    obtain ⟨c0, hc0, hor'⟩ := hblk m c hc
    rcases hH1.inj _ _ _ _ hb0 hc0 he with h | ⟨h1, h2⟩
    · exact .inl h
    · rcases hor with rfl | ⟨h3, _, _⟩
      · rcases hor' with rfl | ⟨h4, _, _⟩
        · exact .inr ⟨h1, h2⟩
        · rw [h4] at h2; cases h2
      · rw [h3] at h1; cases h1
  · obtain ⟨b0, hb0, hor⟩ := hblk n b hb
    rcases hor with rfl | ⟨h3, _, _⟩
    · exact hF.new _ _ hb0
    · rcases hF.new _ _ hb0 with ⟨m, c, hm, hc, _⟩ | e
      · rw [hvw m c hm, h3] at hc; cases hc
      · exact .inr e
end Go.Proofs.Ytcpkieahnkfpoaa.Ev
