/- The closed facts of 'GateEnters'. -/
import Derived.Test.YtmliekdbhefpkaaRows
import Derived.Test.YtmliekdbhefpkaaChecked
import Derived.ProofKit
import Derived.ChangeOld
import Derived.KernelRfl
namespace Go.Proofs.Ytmliekdbhefpkaa.GateEntersDone
open Go Go.Proofs

theorem k0 : (Rows.gateEntersRow.wf (OpenSpec.ofChange Rows.gateEntersSpec)) = true := by kernel_rfl
theorem k1 : (laidOutB Try.prog) = true := by kernel_rfl
theorem k2 : (mapsRowed Try.prog) = true := by kernel_rfl
theorem k3 : (Try.f14.params.all (Try.prog.readableRec ·)) = true := by kernel_rfl
theorem k4 : (namedTie Try.prog Rows.gateEntersRow.named Rows.gateEntersSpec.vars) = true := by kernel_rfl
theorem k5 : ((Rows.gateEntersRow.stops == [])) = true := by kernel_rfl
theorem k6 : ((Try.prog.stops == [])) = true := by kernel_rfl
theorem k7 : ((Rows.gateEntersRow.knobs == [])) = true := by kernel_rfl
theorem k8 : ((Try.prog.stopKnobs == [])) = true := by kernel_rfl
theorem k9 : ((Rows.gateEntersRow.inPlace == Try.prog.inPlace 14)) = true := by kernel_rfl
theorem k10 : ((Rows.gateEntersRow.unfollowed == Try.prog.unfollowed 14)) = true := by kernel_rfl
theorem k11 : ((Rows.gateEntersRow.recurses == Try.prog.recurses 14)) = true := by kernel_rfl
theorem k12 : ((Rows.gateEntersRow.named == Try.prog.varsNamed 14)) = true := by kernel_rfl
theorem k13 : ((Rows.gateEntersRow.maps == (Try.f14.params.toList ++ Rows.gateEntersSpec.plain.varTypes Try.prog).any (Try.prog.mapsRec ·))) = true := by kernel_rfl
theorem k14 : ((Rows.gateEntersRow.ifaces == (Try.f14.params.toList ++ Rows.gateEntersSpec.plain.varTypes Try.prog).any (Try.prog.ifacesRec ·))) = true := by kernel_rfl
theorem k15 : ((Rows.gateEntersRow.mapsOut == Try.prog.mapsAmong Try.f14.resultTypes.toList)) = true := by kernel_rfl
theorem k16 : ((Rows.gateEntersRow.loops == (Try.f14.params.toList ++ Rows.gateEntersSpec.plain.varTypes Try.prog).any (Try.prog.loopsFrom ·))) = true := by kernel_rfl
theorem k17 : ((Rows.gateEntersRow.wideKeys == (Try.f14.params.toList ++ Rows.gateEntersSpec.plain.varTypes Try.prog ++ Try.f14.resultTypes.toList).any (Try.prog.wideKeysFrom ·))) = true := by kernel_rfl
theorem k18 : (Rows.gateEntersSpec.vars.all (Try.prog.varReadable ·)) = true := by kernel_rfl
theorem k19 : (Try.f14.resultTypes.all (fun t => Try.prog.readableRec t && decide (t < Try.prog.types.size))) = true := by kernel_rfl
theorem k20 : ((Rows.gateEntersRow.ifacesOut == Try.f14.resultTypes.toList.any (Try.prog.ifacesRec ·))) = true := by kernel_rfl
theorem k21 : ((Rows.gateEntersRow.loopsOut == Try.f14.resultTypes.toList.any (Try.prog.loopsFrom ·))) = true := by kernel_rfl
theorem k22 : ((Rows.gateEntersRow.plainKeys == Try.prog.plainKeys)) = true := by kernel_rfl
theorem k23 : (Rows.gateEntersRow.shortTexts.isNone) = true := by kernel_rfl
theorem k24 : (Try.prog.stopsHeard) = true := by kernel_rfl
theorem k25 : (Try.prog.mayEnter) = true := by kernel_rfl
theorem k26 : ((Rows.gateEntersRow.lifted == Try.prog.liftsFinal)) = true := by kernel_rfl
theorem k27 : ((Try.prog.make == some Rows.gateEntersRow.make)) = true := by kernel_rfl
theorem k29 : ((Rows.gateEntersRow.pinned == Rows.gateEntersRow.pinnedBy)) = true := by kernel_rfl
theorem k30 : ((Rows.gateEntersRow.veiled == (Try.f14.params.toList ++ Rows.gateEntersSpec.plain.varTypes Try.prog ++ Try.f14.resultTypes.toList).any (Try.prog.veiledRec ·))) = true := by kernel_rfl
theorem k31 : (Rows.gateEntersRow.veiledFits Try.prog Try.f14.params.toList (Try.f14.params.toList ++ Rows.gateEntersSpec.plain.varTypes Try.prog ++ Try.f14.resultTypes.toList)) = true := by kernel_rfl
theorem closed : joinedFacts Try.prog 14 Try.f14 Rows.gateEntersSpec Rows.gateEntersRow = true := by
  unfold joinedFacts
  simp only [k0, k1, k2, k3, k4, k5, k6, k7, k8, k9, k10, k11, k12, k13, k14, k15, k16, k17, k18, k19, k20, k21, k22, k23, k24, k25, k26, k27, k29, k30, k31, Bool.and_self]
  kernel_rfl
theorem named : Try.pinned.checked.prog.funcNamed Rows.gateEntersRow.func = some 14 := by kernel_rfl
theorem inst : Try.f14.isInstance Try.pinned.checked.prog Rows.gateEntersRow.origin Rows.gateEntersRow.targs := of_decide_eq_true (by kernel_rfl)
theorem wrapper : Try.f14.isWrapper Try.pinned.checked.prog Rows.gateEntersRow.wrapper Rows.gateEntersRow.mainSum := by unfold Func.isWrapper; first | (rw [if_pos (by decide +kernel)]; kernel_rfl) | (rw [if_neg (by decide +kernel)]; exact ⟨rfl, rfl⟩)
end Go.Proofs.Ytmliekdbhefpkaa.GateEntersDone
