/- The closed facts of 'JoinAlone'. -/
import Derived.Test.YtmliekdbhefpkaaRows
import Derived.Test.YtmliekdbhefpkaaChecked
import Derived.ProofKit
import Derived.ChangeOld
import Derived.KernelRfl
namespace Go.Proofs.Ytmliekdbhefpkaa.JoinAloneDone
open Go Go.Proofs

theorem k0 : (Rows.joinAloneRow.wf (OpenSpec.ofChange Rows.joinAloneSpec)) = true := by kernel_rfl
theorem k1 : (laidOutB Try.prog) = true := by kernel_rfl
theorem k2 : (mapsRowed Try.prog) = true := by kernel_rfl
theorem k3 : (Try.f8.params.all (Try.prog.readableRec ·)) = true := by kernel_rfl
theorem k4 : (namedTie Try.prog Rows.joinAloneRow.named Rows.joinAloneSpec.vars) = true := by kernel_rfl
theorem k5 : ((Rows.joinAloneRow.stops == [])) = true := by kernel_rfl
theorem k6 : ((Try.prog.stops == [])) = true := by kernel_rfl
theorem k7 : ((Rows.joinAloneRow.knobs == [])) = true := by kernel_rfl
theorem k8 : ((Try.prog.stopKnobs == [])) = true := by kernel_rfl
theorem k9 : ((Rows.joinAloneRow.inPlace == Try.prog.inPlace 8)) = true := by kernel_rfl
theorem k10 : ((Rows.joinAloneRow.unfollowed == Try.prog.unfollowed 8)) = true := by kernel_rfl
theorem k11 : ((Rows.joinAloneRow.recurses == Try.prog.recurses 8)) = true := by kernel_rfl
theorem k12 : ((Rows.joinAloneRow.named == Try.prog.varsNamed 8)) = true := by kernel_rfl
theorem k13 : ((Rows.joinAloneRow.maps == (Try.f8.params.toList ++ Rows.joinAloneSpec.plain.varTypes Try.prog).any (Try.prog.mapsRec ·))) = true := by kernel_rfl
theorem k14 : ((Rows.joinAloneRow.ifaces == (Try.f8.params.toList ++ Rows.joinAloneSpec.plain.varTypes Try.prog).any (Try.prog.ifacesRec ·))) = true := by kernel_rfl
theorem k15 : ((Rows.joinAloneRow.mapsOut == Try.prog.mapsAmong Try.f8.resultTypes.toList)) = true := by kernel_rfl
theorem k16 : ((Rows.joinAloneRow.loops == (Try.f8.params.toList ++ Rows.joinAloneSpec.plain.varTypes Try.prog).any (Try.prog.loopsFrom ·))) = true := by kernel_rfl
theorem k17 : ((Rows.joinAloneRow.wideKeys == (Try.f8.params.toList ++ Rows.joinAloneSpec.plain.varTypes Try.prog ++ Try.f8.resultTypes.toList).any (Try.prog.wideKeysFrom ·))) = true := by kernel_rfl
theorem k18 : (Rows.joinAloneSpec.vars.all (Try.prog.varReadable ·)) = true := by kernel_rfl
theorem k19 : (Try.f8.resultTypes.all (fun t => Try.prog.readableRec t && decide (t < Try.prog.types.size))) = true := by kernel_rfl
theorem k20 : ((Rows.joinAloneRow.ifacesOut == Try.f8.resultTypes.toList.any (Try.prog.ifacesRec ·))) = true := by kernel_rfl
theorem k21 : ((Rows.joinAloneRow.loopsOut == Try.f8.resultTypes.toList.any (Try.prog.loopsFrom ·))) = true := by kernel_rfl
theorem k22 : ((Rows.joinAloneRow.plainKeys == Try.prog.plainKeys)) = true := by kernel_rfl
theorem k23 : (Rows.joinAloneRow.shortTexts.isNone) = true := by kernel_rfl
theorem k24 : (Try.prog.stopsHeard) = true := by kernel_rfl
theorem k25 : (Try.prog.mayEnter) = true := by kernel_rfl
theorem k26 : ((Rows.joinAloneRow.lifted == Try.prog.liftsFinal)) = true := by kernel_rfl
theorem k27 : ((Try.prog.make == some Rows.joinAloneRow.make)) = true := by kernel_rfl
theorem k29 : ((Rows.joinAloneRow.pinned == Rows.joinAloneRow.pinnedBy)) = true := by kernel_rfl
theorem k30 : ((Rows.joinAloneRow.veiled == (Try.f8.params.toList ++ Rows.joinAloneSpec.plain.varTypes Try.prog ++ Try.f8.resultTypes.toList).any (Try.prog.veiledRec ·))) = true := by kernel_rfl
theorem k31 : (Rows.joinAloneRow.veiledFits Try.prog Try.f8.params.toList (Try.f8.params.toList ++ Rows.joinAloneSpec.plain.varTypes Try.prog ++ Try.f8.resultTypes.toList)) = true := by kernel_rfl
theorem closed : joinedFacts Try.prog 8 Try.f8 Rows.joinAloneSpec Rows.joinAloneRow = true := by
  unfold joinedFacts
  simp only [k0, k1, k2, k3, k4, k5, k6, k7, k8, k9, k10, k11, k12, k13, k14, k15, k16, k17, k18, k19, k20, k21, k22, k23, k24, k25, k26, k27, k29, k30, k31, Bool.and_self]
  kernel_rfl
theorem named : Try.pinned.checked.prog.funcNamed Rows.joinAloneRow.func = some 8 := by kernel_rfl
theorem inst : Try.f8.isInstance Try.pinned.checked.prog Rows.joinAloneRow.origin Rows.joinAloneRow.targs := of_decide_eq_true (by kernel_rfl)
theorem wrapper : Try.f8.isWrapper Try.pinned.checked.prog Rows.joinAloneRow.wrapper Rows.joinAloneRow.mainSum := by unfold Func.isWrapper; first | (rw [if_pos (by decide +kernel)]; kernel_rfl) | (rw [if_neg (by decide +kernel)]; exact ⟨rfl, rfl⟩)
end Go.Proofs.Ytmliekdbhefpkaa.JoinAloneDone
