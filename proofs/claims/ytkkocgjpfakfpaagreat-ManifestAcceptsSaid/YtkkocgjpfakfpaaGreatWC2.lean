/- For every manifest, seed and index the statements ManifestSigns and ManifestAccepts of law 40 hold, with no condition. -/
import Derived.Test.YtkkocgjpfakfpaaGreatWC1
set_option linter.unusedSimpArgs false
set_option linter.unusedVariables false
namespace Go.Abs
open Go.Proofs
set_option maxRecDepth 100000
theorem run125 (s : S5) : (runF Tryz.prog rotO 100 125 [s.arr] ⟨0, []⟩).map (·.1) = some (perm s).arr := by kernel_rfl
theorem does125 (s : S5) (H : Heap) : Does Tryz.prog 125 [s.arr] H (perm s).arr H := closed_of_run rotO_sound (run125 s) (by simp [S5.c2]) (S5.c2 _) H
end Go.Abs

