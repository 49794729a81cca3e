/- A part of the proof that the law ManifestLeaves returns true at every input and leaves its arguments as they were; no condition. -/
import Derived.Test.YtkkocgjpfakfpaaGreatQL5
import Derived.Test.YtkkocgjpfakfpaaGreatQE2
namespace Go.Proofs.YtkkocgjpfakfpaaGreat.manifestLeaves
open Go.Proofs.YtkkocgjpfakfpaaGreat
theorem proved : Rows.ManifestLeavesSaid := over Go.Abs.does9
#print axioms proved
end Go.Proofs.YtkkocgjpfakfpaaGreat.manifestLeaves

