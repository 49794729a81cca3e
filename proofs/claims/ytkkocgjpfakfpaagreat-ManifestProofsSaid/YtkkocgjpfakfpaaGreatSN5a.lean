/- A part of the proof that the law ManifestProofs returns true at every input and leaves its arguments as they were; no condition. -/
import Derived.Test.YtkkocgjpfakfpaaGreatRows
import Derived.JoinedOf
set_option linter.unusedSimpArgs false
set_option linter.unusedVariables false
namespace Go.Proofs.YtkkocgjpfakfpaaGreat.manifestProofs
open Go.Proofs.YtkkocgjpfakfpaaGreat
set_option maxRecDepth 100000

theorem k0 : (Rows.manifestProofsRow.wf (OpenSpec.ofChange Rows.manifestProofsSpec)) = true := by kernel_rfl
theorem k2 : (mapsRowed Tryz.prog) = true := by kernel_rfl
theorem k3 : (Tryz.f5.params.all (Tryz.prog.readableRec ·)) = true := by kernel_rfl
theorem k4 : (namedTie Tryz.prog Rows.manifestProofsRow.named Rows.manifestProofsSpec.vars) = true := by kernel_rfl
theorem k5 : ((Rows.manifestProofsRow.stops == [])) = true := by kernel_rfl
theorem k6 : ((Tryz.prog.stops == [])) = true := by kernel_rfl
theorem k7 : ((Rows.manifestProofsRow.knobs == [])) = true := by kernel_rfl
theorem k8 : ((Tryz.prog.stopKnobs == [])) = true := by kernel_rfl
theorem k13 : ((Rows.manifestProofsRow.maps == (Tryz.f5.params.toList ++ Rows.manifestProofsSpec.plain.varTypes Tryz.prog).any (Tryz.prog.mapsRec ·))) = true := by kernel_rfl
theorem k14 : ((Rows.manifestProofsRow.ifaces == (Tryz.f5.params.toList ++ Rows.manifestProofsSpec.plain.varTypes Tryz.prog).any (Tryz.prog.ifacesRec ·))) = true := by kernel_rfl
theorem k15 : ((Rows.manifestProofsRow.mapsOut == Tryz.prog.mapsAmong Tryz.f5.resultTypes.toList)) = true := by kernel_rfl
theorem k16 : ((Rows.manifestProofsRow.loops == (Tryz.f5.params.toList ++ Rows.manifestProofsSpec.plain.varTypes Tryz.prog).any (Tryz.prog.loopsFrom ·))) = true := by kernel_rfl
theorem k17 : ((Rows.manifestProofsRow.wideKeys == (Tryz.f5.params.toList ++ Rows.manifestProofsSpec.plain.varTypes Tryz.prog ++ Tryz.f5.resultTypes.toList).any (Tryz.prog.wideKeysFrom ·))) = true := by kernel_rfl
theorem k18 : (Rows.manifestProofsSpec.vars.all (Tryz.prog.varReadable ·)) = true := by kernel_rfl
theorem k19 : (Tryz.f5.resultTypes.all (fun t => Tryz.prog.readableRec t && decide (t < Tryz.prog.types.size))) = true := by kernel_rfl
theorem k20 : ((Rows.manifestProofsRow.ifacesOut == Tryz.f5.resultTypes.toList.any (Tryz.prog.ifacesRec ·))) = true := by kernel_rfl
theorem k21 : ((Rows.manifestProofsRow.loopsOut == Tryz.f5.resultTypes.toList.any (Tryz.prog.loopsFrom ·))) = true := by kernel_rfl
theorem k23 : (Rows.manifestProofsRow.shortTexts.isNone) = true := by kernel_rfl
theorem k27 : ((Tryz.prog.make == some Rows.manifestProofsRow.make)) = true := by kernel_rfl
theorem k28 : ((Rows.manifestProofsRow.kinds == (if Rows.manifestProofsRow.domain.isEmpty then [] else Tryz.f5.params.toList.map fun t => match Tryz.prog.underlying t with | some (.int k) => some k | _ => none))) = true := by kernel_rfl
theorem k29 : ((Rows.manifestProofsRow.pinned == Rows.manifestProofsRow.pinnedBy)) = true := by kernel_rfl
theorem k30 : ((Rows.manifestProofsRow.veiled == (Tryz.f5.params.toList ++ Rows.manifestProofsSpec.plain.varTypes Tryz.prog ++ Tryz.f5.resultTypes.toList).any (Tryz.prog.veiledRec ·))) = true := by kernel_rfl
theorem k31 : (Rows.manifestProofsRow.veiledFits Tryz.prog Tryz.f5.params.toList (Tryz.f5.params.toList ++ Rows.manifestProofsSpec.plain.varTypes Tryz.prog ++ Tryz.f5.resultTypes.toList)) = true := by kernel_rfl
end Go.Proofs.YtkkocgjpfakfpaaGreat.manifestProofs

