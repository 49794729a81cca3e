/- A part of the proof that the law ManifestProofs returns true at every input and leaves its arguments as they were; no condition. -/
import Derived.Test.YtkkocgjpfakfpaaGreatSN5
import Derived.Test.YtkkocgjpfakfpaaGreatSE2
set_option linter.unusedSimpArgs false
set_option linter.unusedVariables false
namespace Go.Proofs.YtkkocgjpfakfpaaGreat.manifestProofs
open Go.Proofs.YtkkocgjpfakfpaaGreat
theorem proved : Rows.ManifestProofsSaid := over Go.Abs.does9
#print axioms proved
end Go.Proofs.YtkkocgjpfakfpaaGreat.manifestProofs

