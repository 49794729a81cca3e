/- A part of the proof that the law ManifestLeaves returns true at every input and leaves its arguments as they were; no condition. -/
import Derived.Test.YtkkocgjpfakfpaaGreatRows
import Derived.JoinedOf
namespace Go.Proofs.YtkkocgjpfakfpaaGreat.manifestLeaves
open Go.Proofs.YtkkocgjpfakfpaaGreat
set_option maxRecDepth 100000

theorem k0 : (Rows.manifestLeavesRow.wf (OpenSpec.ofChange Rows.manifestLeavesSpec)) = true := by kernel_rfl
theorem k2 : (mapsRowed Tryz.prog) = true := by kernel_rfl
theorem k3 : (Tryz.f4.params.all (Tryz.prog.readableRec ·)) = true := by kernel_rfl
theorem k4 : (namedTie Tryz.prog Rows.manifestLeavesRow.named Rows.manifestLeavesSpec.vars) = true := by kernel_rfl
theorem k5 : ((Rows.manifestLeavesRow.stops == [])) = true := by kernel_rfl
theorem k6 : ((Tryz.prog.stops == [])) = true := by kernel_rfl
theorem k7 : ((Rows.manifestLeavesRow.knobs == [])) = true := by kernel_rfl
theorem k8 : ((Tryz.prog.stopKnobs == [])) = true := by kernel_rfl
theorem k13 : ((Rows.manifestLeavesRow.maps == (Tryz.f4.params.toList ++ Rows.manifestLeavesSpec.plain.varTypes Tryz.prog).any (Tryz.prog.mapsRec ·))) = true := by kernel_rfl
theorem k14 : ((Rows.manifestLeavesRow.ifaces == (Tryz.f4.params.toList ++ Rows.manifestLeavesSpec.plain.varTypes Tryz.prog).any (Tryz.prog.ifacesRec ·))) = true := by kernel_rfl
theorem k15 : ((Rows.manifestLeavesRow.mapsOut == Tryz.prog.mapsAmong Tryz.f4.resultTypes.toList)) = true := by kernel_rfl
theorem k16 : ((Rows.manifestLeavesRow.loops == (Tryz.f4.params.toList ++ Rows.manifestLeavesSpec.plain.varTypes Tryz.prog).any (Tryz.prog.loopsFrom ·))) = true := by kernel_rfl
theorem k17 : ((Rows.manifestLeavesRow.wideKeys == (Tryz.f4.params.toList ++ Rows.manifestLeavesSpec.plain.varTypes Tryz.prog ++ Tryz.f4.resultTypes.toList).any (Tryz.prog.wideKeysFrom ·))) = true := by kernel_rfl
theorem k18 : (Rows.manifestLeavesSpec.vars.all (Tryz.prog.varReadable ·)) = true := by kernel_rfl
theorem k19 : (Tryz.f4.resultTypes.all (fun t => Tryz.prog.readableRec t && decide (t < Tryz.prog.types.size))) = true := by kernel_rfl
theorem k20 : ((Rows.manifestLeavesRow.ifacesOut == Tryz.f4.resultTypes.toList.any (Tryz.prog.ifacesRec ·))) = true := by kernel_rfl
theorem k21 : ((Rows.manifestLeavesRow.loopsOut == Tryz.f4.resultTypes.toList.any (Tryz.prog.loopsFrom ·))) = true := by kernel_rfl
theorem k23 : (Rows.manifestLeavesRow.shortTexts.isNone) = true := by kernel_rfl
theorem k27 : ((Tryz.prog.make == some Rows.manifestLeavesRow.make)) = true := by kernel_rfl
theorem k28 : ((Rows.manifestLeavesRow.kinds == (if Rows.manifestLeavesRow.domain.isEmpty then [] else Tryz.f4.params.toList.map fun t => match Tryz.prog.underlying t with | some (.int k) => some k | _ => none))) = true := by kernel_rfl
theorem k29 : ((Rows.manifestLeavesRow.pinned == Rows.manifestLeavesRow.pinnedBy)) = true := by kernel_rfl
theorem k30 : ((Rows.manifestLeavesRow.veiled == (Tryz.f4.params.toList ++ Rows.manifestLeavesSpec.plain.varTypes Tryz.prog ++ Tryz.f4.resultTypes.toList).any (Tryz.prog.veiledRec ·))) = true := by kernel_rfl
theorem k31 : (Rows.manifestLeavesRow.veiledFits Tryz.prog Tryz.f4.params.toList (Tryz.f4.params.toList ++ Rows.manifestLeavesSpec.plain.varTypes Tryz.prog ++ Tryz.f4.resultTypes.toList)) = true := by kernel_rfl
end Go.Proofs.YtkkocgjpfakfpaaGreat.manifestLeaves

