/- The closed facts of 'GateStale'. -/
import Derived.Test.YtmliekdbhefpkaaRows
import Derived.Test.YtmliekdbhefpkaaChecked
import Derived.ProofKit
import Derived.ChangeOld
import Derived.KernelRfl
namespace Go.Proofs.Ytmliekdbhefpkaa.GateStaleDone
open Go Go.Proofs

theorem k0 : (Rows.gateStaleRow.wf (OpenSpec.ofChange Rows.gateStaleSpec)) = true := by kernel_rfl
theorem k1 : (laidOutB Try.prog) = true := by kernel_rfl
theorem k2 : (mapsRowed Try.prog) = true := by kernel_rfl
theorem k3 : (Try.f12.params.all (Try.prog.readableRec ·)) = true := by kernel_rfl
theorem k4 : (namedTie Try.prog Rows.gateStaleRow.named Rows.gateStaleSpec.vars) = true := by kernel_rfl
theorem k5 : ((Rows.gateStaleRow.stops == [])) = true := by kernel_rfl
theorem k6 : ((Try.prog.stops == [])) = true := by kernel_rfl
theorem k7 : ((Rows.gateStaleRow.knobs == [])) = true := by kernel_rfl
theorem k8 : ((Try.prog.stopKnobs == [])) = true := by kernel_rfl
theorem k9 : ((Rows.gateStaleRow.inPlace == Try.prog.inPlace 12)) = true := by kernel_rfl
theorem k10 : ((Rows.gateStaleRow.unfollowed == Try.prog.unfollowed 12)) = true := by kernel_rfl
theorem k11 : ((Rows.gateStaleRow.recurses == Try.prog.recurses 12)) = true := by kernel_rfl
theorem k12 : ((Rows.gateStaleRow.named == Try.prog.varsNamed 12)) = true := by kernel_rfl
theorem k13 : ((Rows.gateStaleRow.maps == (Try.f12.params.toList ++ Rows.gateStaleSpec.plain.varTypes Try.prog).any (Try.prog.mapsRec ·))) = true := by kernel_rfl
theorem k14 : ((Rows.gateStaleRow.ifaces == (Try.f12.params.toList ++ Rows.gateStaleSpec.plain.varTypes Try.prog).any (Try.prog.ifacesRec ·))) = true := by kernel_rfl
theorem k15 : ((Rows.gateStaleRow.mapsOut == Try.prog.mapsAmong Try.f12.resultTypes.toList)) = true := by kernel_rfl
theorem k16 : ((Rows.gateStaleRow.loops == (Try.f12.params.toList ++ Rows.gateStaleSpec.plain.varTypes Try.prog).any (Try.prog.loopsFrom ·))) = true := by kernel_rfl
theorem k17 : ((Rows.gateStaleRow.wideKeys == (Try.f12.params.toList ++ Rows.gateStaleSpec.plain.varTypes Try.prog ++ Try.f12.resultTypes.toList).any (Try.prog.wideKeysFrom ·))) = true := by kernel_rfl
theorem k18 : (Rows.gateStaleSpec.vars.all (Try.prog.varReadable ·)) = true := by kernel_rfl
theorem k19 : (Try.f12.resultTypes.all (fun t => Try.prog.readableRec t && decide (t < Try.prog.types.size))) = true := by kernel_rfl
theorem k20 : ((Rows.gateStaleRow.ifacesOut == Try.f12.resultTypes.toList.any (Try.prog.ifacesRec ·))) = true := by kernel_rfl
theorem k21 : ((Rows.gateStaleRow.loopsOut == Try.f12.resultTypes.toList.any (Try.prog.loopsFrom ·))) = true := by kernel_rfl
theorem k22 : ((Rows.gateStaleRow.plainKeys == Try.prog.plainKeys)) = true := by kernel_rfl
theorem k23 : (Rows.gateStaleRow.shortTexts.isNone) = true := by kernel_rfl
theorem k24 : (Try.prog.stopsHeard) = true := by kernel_rfl
theorem k25 : (Try.prog.mayEnter) = true := by kernel_rfl
theorem k26 : ((Rows.gateStaleRow.lifted == Try.prog.liftsFinal)) = true := by kernel_rfl
theorem k27 : ((Try.prog.make == some Rows.gateStaleRow.make)) = true := by kernel_rfl
theorem k29 : ((Rows.gateStaleRow.pinned == Rows.gateStaleRow.pinnedBy)) = true := by kernel_rfl
theorem k30 : ((Rows.gateStaleRow.veiled == (Try.f12.params.toList ++ Rows.gateStaleSpec.plain.varTypes Try.prog ++ Try.f12.resultTypes.toList).any (Try.prog.veiledRec ·))) = true := by kernel_rfl
theorem k31 : (Rows.gateStaleRow.veiledFits Try.prog Try.f12.params.toList (Try.f12.params.toList ++ Rows.gateStaleSpec.plain.varTypes Try.prog ++ Try.f12.resultTypes.toList)) = true := by kernel_rfl
theorem closed : joinedFacts Try.prog 12 Try.f12 Rows.gateStaleSpec Rows.gateStaleRow = true := by
  unfold joinedFacts
  simp only [k0, k1, k2, k3, k4, k5, k6, k7, k8, k9, k10, k11, k12, k13, k14, k15, k16, k17, k18, k19, k20, k21, k22, k23, k24, k25, k26, k27, k29, k30, k31, Bool.and_self]
  kernel_rfl
theorem named : Try.pinned.checked.prog.funcNamed Rows.gateStaleRow.func = some 12 := by kernel_rfl
theorem inst : Try.f12.isInstance Try.pinned.checked.prog Rows.gateStaleRow.origin Rows.gateStaleRow.targs := of_decide_eq_true (by kernel_rfl)
theorem wrapper : Try.f12.isWrapper Try.pinned.checked.prog Rows.gateStaleRow.wrapper Rows.gateStaleRow.mainSum := by unfold Func.isWrapper; first | (rw [if_pos (by decide +kernel)]; kernel_rfl) | (rw [if_neg (by decide +kernel)]; exact ⟨rfl, rfl⟩)
end Go.Proofs.Ytmliekdbhefpkaa.GateStaleDone
