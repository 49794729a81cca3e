/- A part of the proof that the law ManifestParts returns true at every input and leaves its arguments as they were; no condition. -/
import Derived.Test.YtkkocgjpfakfpaaGreatD5
import Derived.Test.YtkkocgjpfakfpaaGreatE2
namespace Go.Proofs.YtkkocgjpfakfpaaGreat.manifestParts
open Go.Proofs.YtkkocgjpfakfpaaGreat
theorem proved : Rows.ManifestPartsSaid := over Go.Abs.does9
#print axioms proved
end Go.Proofs.YtkkocgjpfakfpaaGreat.manifestParts

