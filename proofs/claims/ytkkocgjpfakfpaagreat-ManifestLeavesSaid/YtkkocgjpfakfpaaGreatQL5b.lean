/- A part of the proof that the law ManifestLeaves returns true at every input and leaves its arguments as they were; no condition. -/
import Derived.Test.YtkkocgjpfakfpaaGreatRows
import Derived.JoinedOf
namespace Go.Proofs.YtkkocgjpfakfpaaGreat.manifestLeaves
open Go.Proofs.YtkkocgjpfakfpaaGreat
set_option maxRecDepth 100000

theorem k1 : (laidOutB Tryz.prog) = true := by kernel_rfl
theorem k22 : ((Rows.manifestLeavesRow.plainKeys == Tryz.prog.plainKeys)) = true := by kernel_rfl
theorem k24 : (Tryz.prog.stopsHeard) = true := by kernel_rfl
theorem k26 : ((Rows.manifestLeavesRow.lifted == Tryz.prog.liftsFinal)) = true := by kernel_rfl
end Go.Proofs.YtkkocgjpfakfpaaGreat.manifestLeaves

