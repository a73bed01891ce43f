/- The closed facts of 'OpenOnly'. -/
import Derived.Test.YtjkohcdgjlaobaaRows
import Derived.Test.YtjkohcdgjlaobaaChecked
import Derived.ProofKit
import Derived.ChangeOld
import Derived.KernelRfl
namespace Go.Proofs.Ytjkohcdgjlaobaa.OpenOnlyDone
open Go Go.Proofs

theorem k0 : (Rows.openOnlyRow.wf (OpenSpec.ofChange Rows.openOnlySpec)) = true := by kernel_rfl
theorem k1 : (laidOutB Try.prog) = true := by kernel_rfl
theorem k2 : (mapsRowed Try.prog) = true := by kernel_rfl
theorem k3 : (Try.f9.params.all (Try.prog.readableRec ·)) = true := by kernel_rfl
theorem k4 : (namedTie Try.prog Rows.openOnlyRow.named Rows.openOnlySpec.vars) = true := by kernel_rfl
theorem k5 : ((Rows.openOnlyRow.stops == [])) = true := by kernel_rfl
theorem k6 : ((Try.prog.stops == [])) = true := by kernel_rfl
theorem k7 : ((Rows.openOnlyRow.knobs == [])) = true := by kernel_rfl
theorem k8 : ((Try.prog.stopKnobs == [])) = true := by kernel_rfl
theorem k9 : ((Rows.openOnlyRow.inPlace == Try.prog.inPlace 9)) = true := by kernel_rfl
theorem k10 : ((Rows.openOnlyRow.unfollowed == Try.prog.unfollowed 9)) = true := by kernel_rfl
theorem k11 : ((Rows.openOnlyRow.recurses == Try.prog.recurses 9)) = true := by kernel_rfl
theorem k12 : ((Rows.openOnlyRow.named == Try.prog.varsNamed 9)) = true := by kernel_rfl
theorem k13 : ((Rows.openOnlyRow.maps == (Try.f9.params.toList ++ Rows.openOnlySpec.plain.varTypes Try.prog).any (Try.prog.mapsRec ·))) = true := by kernel_rfl
theorem k14 : ((Rows.openOnlyRow.ifaces == (Try.f9.params.toList ++ Rows.openOnlySpec.plain.varTypes Try.prog).any (Try.prog.ifacesRec ·))) = true := by kernel_rfl
theorem k15 : ((Rows.openOnlyRow.mapsOut == Try.prog.mapsAmong Try.f9.resultTypes.toList)) = true := by kernel_rfl
theorem k16 : ((Rows.openOnlyRow.loops == (Try.f9.params.toList ++ Rows.openOnlySpec.plain.varTypes Try.prog).any (Try.prog.loopsFrom ·))) = true := by kernel_rfl
theorem k17 : ((Rows.openOnlyRow.wideKeys == (Try.f9.params.toList ++ Rows.openOnlySpec.plain.varTypes Try.prog ++ Try.f9.resultTypes.toList).any (Try.prog.wideKeysFrom ·))) = true := by kernel_rfl
theorem k18 : (Rows.openOnlySpec.vars.all (Try.prog.varReadable ·)) = true := by kernel_rfl
theorem k19 : (Try.f9.resultTypes.all (fun t => Try.prog.readableRec t && decide (t < Try.prog.types.size))) = true := by kernel_rfl
theorem k20 : ((Rows.openOnlyRow.ifacesOut == Try.f9.resultTypes.toList.any (Try.prog.ifacesRec ·))) = true := by kernel_rfl
theorem k21 : ((Rows.openOnlyRow.loopsOut == Try.f9.resultTypes.toList.any (Try.prog.loopsFrom ·))) = true := by kernel_rfl
theorem k22 : ((Rows.openOnlyRow.plainKeys == Try.prog.plainKeys)) = true := by kernel_rfl
theorem k23 : (Rows.openOnlyRow.shortTexts.isNone) = true := by kernel_rfl
theorem k24 : (Try.prog.stopsHeard) = true := by kernel_rfl
theorem k25 : (Try.prog.mayEnter) = true := by kernel_rfl
theorem k26 : ((Rows.openOnlyRow.lifted == Try.prog.liftsFinal)) = true := by kernel_rfl
theorem k27 : ((Try.prog.make == some Rows.openOnlyRow.make)) = true := by kernel_rfl
theorem k29 : ((Rows.openOnlyRow.pinned == Rows.openOnlyRow.pinnedBy)) = true := by kernel_rfl
theorem k30 : ((Rows.openOnlyRow.veiled == (Try.f9.params.toList ++ Rows.openOnlySpec.plain.varTypes Try.prog ++ Try.f9.resultTypes.toList).any (Try.prog.veiledRec ·))) = true := by kernel_rfl
theorem k31 : (Rows.openOnlyRow.veiledFits Try.prog Try.f9.params.toList (Try.f9.params.toList ++ Rows.openOnlySpec.plain.varTypes Try.prog ++ Try.f9.resultTypes.toList)) = true := by kernel_rfl
theorem closed : joinedFacts Try.prog 9 Try.f9 Rows.openOnlySpec Rows.openOnlyRow = true := by
  unfold joinedFacts
  simp only [k0, k1, k2, k3, k4, k5, k6, k7, k8, k9, k10, k11, k12, k13, k14, k15, k16, k17, k18, k19, k20, k21, k22, k23, k24, k25, k26, k27, k29, k30, k31, Bool.and_self]
  kernel_rfl
theorem named : Try.pinned.checked.prog.funcNamed Rows.openOnlyRow.func = some 9 := by kernel_rfl
theorem inst : Try.f9.isInstance Try.pinned.checked.prog Rows.openOnlyRow.origin Rows.openOnlyRow.targs := of_decide_eq_true (by kernel_rfl)
theorem wrapper : Try.f9.isWrapper Try.pinned.checked.prog Rows.openOnlyRow.wrapper Rows.openOnlyRow.mainSum := by unfold Func.isWrapper; first | (rw [if_pos (by decide +kernel)]; kernel_rfl) | (rw [if_neg (by decide +kernel)]; exact ⟨rfl, rfl⟩)
end Go.Proofs.Ytjkohcdgjlaobaa.OpenOnlyDone
