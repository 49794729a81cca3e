/- For every manifest, seed and index the statements ManifestSigns and ManifestAccepts of law 40 hold, with no condition. -/
import Derived.Test.YtkkocgjpfakfpaaGreatRows
import Derived.JoinedOf
set_option linter.unusedSimpArgs false
set_option linter.unusedVariables false
namespace Go.Proofs.YtkkocgjpfakfpaaGreat.manifestAccepts
open Go.Proofs.YtkkocgjpfakfpaaGreat
set_option maxRecDepth 100000

theorem k0 : (Rows.manifestAcceptsRow.wf (OpenSpec.ofChange Rows.manifestAcceptsSpec)) = true := by kernel_rfl
theorem k2 : (mapsRowed Tryz.prog) = true := by kernel_rfl
theorem k3 : (Tryz.f7.params.all (Tryz.prog.readableRec ·)) = true := by kernel_rfl
theorem k4 : (namedTie Tryz.prog Rows.manifestAcceptsRow.named Rows.manifestAcceptsSpec.vars) = true := by kernel_rfl
theorem k5 : ((Rows.manifestAcceptsRow.stops == [])) = true := by kernel_rfl
theorem k6 : ((Tryz.prog.stops == [])) = true := by kernel_rfl
theorem k7 : ((Rows.manifestAcceptsRow.knobs == [])) = true := by kernel_rfl
theorem k8 : ((Tryz.prog.stopKnobs == [])) = true := by kernel_rfl
theorem k13 : ((Rows.manifestAcceptsRow.maps == (Tryz.f7.params.toList ++ Rows.manifestAcceptsSpec.plain.varTypes Tryz.prog).any (Tryz.prog.mapsRec ·))) = true := by kernel_rfl
theorem k14 : ((Rows.manifestAcceptsRow.ifaces == (Tryz.f7.params.toList ++ Rows.manifestAcceptsSpec.plain.varTypes Tryz.prog).any (Tryz.prog.ifacesRec ·))) = true := by kernel_rfl
theorem k15 : ((Rows.manifestAcceptsRow.mapsOut == Tryz.prog.mapsAmong Tryz.f7.resultTypes.toList)) = true := by kernel_rfl
theorem k16 : ((Rows.manifestAcceptsRow.loops == (Tryz.f7.params.toList ++ Rows.manifestAcceptsSpec.plain.varTypes Tryz.prog).any (Tryz.prog.loopsFrom ·))) = true := by kernel_rfl
theorem k17 : ((Rows.manifestAcceptsRow.wideKeys == (Tryz.f7.params.toList ++ Rows.manifestAcceptsSpec.plain.varTypes Tryz.prog ++ Tryz.f7.resultTypes.toList).any (Tryz.prog.wideKeysFrom ·))) = true := by kernel_rfl
theorem k18 : (Rows.manifestAcceptsSpec.vars.all (Tryz.prog.varReadable ·)) = true := by kernel_rfl
theorem k19 : (Tryz.f7.resultTypes.all (fun t => Tryz.prog.readableRec t && decide (t < Tryz.prog.types.size))) = true := by kernel_rfl
theorem k20 : ((Rows.manifestAcceptsRow.ifacesOut == Tryz.f7.resultTypes.toList.any (Tryz.prog.ifacesRec ·))) = true := by kernel_rfl
theorem k21 : ((Rows.manifestAcceptsRow.loopsOut == Tryz.f7.resultTypes.toList.any (Tryz.prog.loopsFrom ·))) = true := by kernel_rfl
theorem k23 : (Rows.manifestAcceptsRow.shortTexts.isNone) = true := by kernel_rfl
theorem k27 : ((Tryz.prog.make == some Rows.manifestAcceptsRow.make)) = true := by kernel_rfl
theorem k28 : ((Rows.manifestAcceptsRow.kinds == (if Rows.manifestAcceptsRow.domain.isEmpty then [] else Tryz.f7.params.toList.map fun t => match Tryz.prog.underlying t with | some (.int k) => some k | _ => none))) = true := by kernel_rfl
theorem k29 : ((Rows.manifestAcceptsRow.pinned == Rows.manifestAcceptsRow.pinnedBy)) = true := by kernel_rfl
theorem k30 : ((Rows.manifestAcceptsRow.veiled == (Tryz.f7.params.toList ++ Rows.manifestAcceptsSpec.plain.varTypes Tryz.prog ++ Tryz.f7.resultTypes.toList).any (Tryz.prog.veiledRec ·))) = true := by kernel_rfl
theorem k31 : (Rows.manifestAcceptsRow.veiledFits Tryz.prog Tryz.f7.params.toList (Tryz.f7.params.toList ++ Rows.manifestAcceptsSpec.plain.varTypes Tryz.prog ++ Tryz.f7.resultTypes.toList)) = true := by kernel_rfl
end Go.Proofs.YtkkocgjpfakfpaaGreat.manifestAccepts

