/- A part of the proof that the law ManifestLeaves returns true at every input and leaves its arguments as they were; no condition. -/
import Derived.Test.YtkkocgjpfakfpaaGreatRows
import Derived.JoinedOf
namespace Go.Proofs.YtkkocgjpfakfpaaGreat.manifestLeaves
open Go.Proofs.YtkkocgjpfakfpaaGreat
set_option maxRecDepth 100000

theorem k9 : ((Rows.manifestLeavesRow.inPlace == Tryz.prog.inPlace 4)) = true := by kernel_rfl
end Go.Proofs.YtkkocgjpfakfpaaGreat.manifestLeaves

