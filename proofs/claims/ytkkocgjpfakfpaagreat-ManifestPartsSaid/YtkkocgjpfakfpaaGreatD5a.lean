/- A part of the proof that the law ManifestParts returns true at every input and leaves its arguments as they were; no condition. -/
import Derived.Test.YtkkocgjpfakfpaaGreatRows
import Derived.JoinedOf
namespace Go.Proofs.YtkkocgjpfakfpaaGreat.manifestParts
open Go.Proofs.YtkkocgjpfakfpaaGreat
set_option maxRecDepth 100000

theorem k0 : (Rows.manifestPartsRow.wf (OpenSpec.ofChange Rows.manifestPartsSpec)) = true := by kernel_rfl
theorem k2 : (mapsRowed Tryz.prog) = true := by kernel_rfl
theorem k3 : (Tryz.f3.params.all (Tryz.prog.readableRec ·)) = true := by kernel_rfl
theorem k4 : (namedTie Tryz.prog Rows.manifestPartsRow.named Rows.manifestPartsSpec.vars) = true := by kernel_rfl
theorem k5 : ((Rows.manifestPartsRow.stops == [])) = true := by kernel_rfl
theorem k6 : ((Tryz.prog.stops == [])) = true := by kernel_rfl
theorem k7 : ((Rows.manifestPartsRow.knobs == [])) = true := by kernel_rfl
theorem k8 : ((Tryz.prog.stopKnobs == [])) = true := by kernel_rfl
theorem k13 : ((Rows.manifestPartsRow.maps == (Tryz.f3.params.toList ++ Rows.manifestPartsSpec.plain.varTypes Tryz.prog).any (Tryz.prog.mapsRec ·))) = true := by kernel_rfl
theorem k14 : ((Rows.manifestPartsRow.ifaces == (Tryz.f3.params.toList ++ Rows.manifestPartsSpec.plain.varTypes Tryz.prog).any (Tryz.prog.ifacesRec ·))) = true := by kernel_rfl
theorem k15 : ((Rows.manifestPartsRow.mapsOut == Tryz.prog.mapsAmong Tryz.f3.resultTypes.toList)) = true := by kernel_rfl
theorem k16 : ((Rows.manifestPartsRow.loops == (Tryz.f3.params.toList ++ Rows.manifestPartsSpec.plain.varTypes Tryz.prog).any (Tryz.prog.loopsFrom ·))) = true := by kernel_rfl
theorem k17 : ((Rows.manifestPartsRow.wideKeys == (Tryz.f3.params.toList ++ Rows.manifestPartsSpec.plain.varTypes Tryz.prog ++ Tryz.f3.resultTypes.toList).any (Tryz.prog.wideKeysFrom ·))) = true := by kernel_rfl
theorem k18 : (Rows.manifestPartsSpec.vars.all (Tryz.prog.varReadable ·)) = true := by kernel_rfl
theorem k19 : (Tryz.f3.resultTypes.all (fun t => Tryz.prog.readableRec t && decide (t < Tryz.prog.types.size))) = true := by kernel_rfl
theorem k20 : ((Rows.manifestPartsRow.ifacesOut == Tryz.f3.resultTypes.toList.any (Tryz.prog.ifacesRec ·))) = true := by kernel_rfl
theorem k21 : ((Rows.manifestPartsRow.loopsOut == Tryz.f3.resultTypes.toList.any (Tryz.prog.loopsFrom ·))) = true := by kernel_rfl
theorem k23 : (Rows.manifestPartsRow.shortTexts.isNone) = true := by kernel_rfl
theorem k27 : ((Tryz.prog.make == some Rows.manifestPartsRow.make)) = true := by kernel_rfl
theorem k28 : ((Rows.manifestPartsRow.kinds == (if Rows.manifestPartsRow.domain.isEmpty then [] else Tryz.f3.params.toList.map fun t => match Tryz.prog.underlying t with | some (.int k) => some k | _ => none))) = true := by kernel_rfl
theorem k29 : ((Rows.manifestPartsRow.pinned == Rows.manifestPartsRow.pinnedBy)) = true := by kernel_rfl
theorem k30 : ((Rows.manifestPartsRow.veiled == (Tryz.f3.params.toList ++ Rows.manifestPartsSpec.plain.varTypes Tryz.prog ++ Tryz.f3.resultTypes.toList).any (Tryz.prog.veiledRec ·))) = true := by kernel_rfl
theorem k31 : (Rows.manifestPartsRow.veiledFits Tryz.prog Tryz.f3.params.toList (Tryz.f3.params.toList ++ Rows.manifestPartsSpec.plain.varTypes Tryz.prog ++ Tryz.f3.resultTypes.toList)) = true := by kernel_rfl
end Go.Proofs.YtkkocgjpfakfpaaGreat.manifestParts

