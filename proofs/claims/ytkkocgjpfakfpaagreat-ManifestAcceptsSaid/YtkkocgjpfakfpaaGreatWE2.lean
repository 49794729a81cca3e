/- For every manifest, seed and index the statements ManifestSigns and ManifestAccepts of law 40 hold, with no condition. -/
import Derived.Test.YtkkocgjpfakfpaaGreatWE3
set_option linter.unusedSimpArgs false
set_option linter.unusedVariables false
namespace Go.Abs
open Go.Proofs
set_option maxRecDepth 1000000
theorem run9 : (runF Tryz.prog (orC catO (memoO tab9)) 100000 9 [] ⟨0, []⟩).map (·.1) = some (.bool true) := by kernel_rfl
theorem does9 (H : Heap) : Does Tryz.prog 9 [] H (.bool true) H := closed_of_run (orC_sound catO_sound (memoO_sound tab9_ok)) run9 rfl rfl H
#print axioms does9
end Go.Abs

