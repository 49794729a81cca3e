/- For every manifest, seed and index the statements ManifestSigns and ManifestAccepts of law 40 hold, with no condition. -/
import Derived.Test.YtkkocgjpfakfpaaGreatRows
import Derived.JoinedOf
set_option linter.unusedSimpArgs false
set_option linter.unusedVariables false
namespace Go.Proofs.YtkkocgjpfakfpaaGreat.manifestSigns
open Go.Proofs.YtkkocgjpfakfpaaGreat
set_option maxRecDepth 100000

theorem k0 : (Rows.manifestSignsRow.wf (OpenSpec.ofChange Rows.manifestSignsSpec)) = true := by kernel_rfl
theorem k2 : (mapsRowed Tryz.prog) = true := by kernel_rfl
theorem k3 : (Tryz.f6.params.all (Tryz.prog.readableRec ·)) = true := by kernel_rfl
theorem k4 : (namedTie Tryz.prog Rows.manifestSignsRow.named Rows.manifestSignsSpec.vars) = true := by kernel_rfl
theorem k5 : ((Rows.manifestSignsRow.stops == [])) = true := by kernel_rfl
theorem k6 : ((Tryz.prog.stops == [])) = true := by kernel_rfl
theorem k7 : ((Rows.manifestSignsRow.knobs == [])) = true := by kernel_rfl
theorem k8 : ((Tryz.prog.stopKnobs == [])) = true := by kernel_rfl
theorem k13 : ((Rows.manifestSignsRow.maps == (Tryz.f6.params.toList ++ Rows.manifestSignsSpec.plain.varTypes Tryz.prog).any (Tryz.prog.mapsRec ·))) = true := by kernel_rfl
theorem k14 : ((Rows.manifestSignsRow.ifaces == (Tryz.f6.params.toList ++ Rows.manifestSignsSpec.plain.varTypes Tryz.prog).any (Tryz.prog.ifacesRec ·))) = true := by kernel_rfl
theorem k15 : ((Rows.manifestSignsRow.mapsOut == Tryz.prog.mapsAmong Tryz.f6.resultTypes.toList)) = true := by kernel_rfl
theorem k16 : ((Rows.manifestSignsRow.loops == (Tryz.f6.params.toList ++ Rows.manifestSignsSpec.plain.varTypes Tryz.prog).any (Tryz.prog.loopsFrom ·))) = true := by kernel_rfl
theorem k17 : ((Rows.manifestSignsRow.wideKeys == (Tryz.f6.params.toList ++ Rows.manifestSignsSpec.plain.varTypes Tryz.prog ++ Tryz.f6.resultTypes.toList).any (Tryz.prog.wideKeysFrom ·))) = true := by kernel_rfl
theorem k18 : (Rows.manifestSignsSpec.vars.all (Tryz.prog.varReadable ·)) = true := by kernel_rfl
theorem k19 : (Tryz.f6.resultTypes.all (fun t => Tryz.prog.readableRec t && decide (t < Tryz.prog.types.size))) = true := by kernel_rfl
theorem k20 : ((Rows.manifestSignsRow.ifacesOut == Tryz.f6.resultTypes.toList.any (Tryz.prog.ifacesRec ·))) = true := by kernel_rfl
theorem k21 : ((Rows.manifestSignsRow.loopsOut == Tryz.f6.resultTypes.toList.any (Tryz.prog.loopsFrom ·))) = true := by kernel_rfl
theorem k23 : (Rows.manifestSignsRow.shortTexts.isNone) = true := by kernel_rfl
theorem k27 : ((Tryz.prog.make == some Rows.manifestSignsRow.make)) = true := by kernel_rfl
theorem k28 : ((Rows.manifestSignsRow.kinds == (if Rows.manifestSignsRow.domain.isEmpty then [] else Tryz.f6.params.toList.map fun t => match Tryz.prog.underlying t with | some (.int k) => some k | _ => none))) = true := by kernel_rfl
theorem k29 : ((Rows.manifestSignsRow.pinned == Rows.manifestSignsRow.pinnedBy)) = true := by kernel_rfl
theorem k30 : ((Rows.manifestSignsRow.veiled == (Tryz.f6.params.toList ++ Rows.manifestSignsSpec.plain.varTypes Tryz.prog ++ Tryz.f6.resultTypes.toList).any (Tryz.prog.veiledRec ·))) = true := by kernel_rfl
theorem k31 : (Rows.manifestSignsRow.veiledFits Tryz.prog Tryz.f6.params.toList (Tryz.f6.params.toList ++ Rows.manifestSignsSpec.plain.varTypes Tryz.prog ++ Tryz.f6.resultTypes.toList)) = true := by kernel_rfl
end Go.Proofs.YtkkocgjpfakfpaaGreat.manifestSigns

