/- For every manifest, seed and index the statements ManifestSigns and ManifestAccepts of law 40 hold, with no condition. -/
import Derived.Test.YtkkocgjpfakfpaaGreatWU5
import Derived.Test.YtkkocgjpfakfpaaGreatWE2
set_option linter.unusedSimpArgs false
set_option linter.unusedVariables false
namespace Go.Proofs.YtkkocgjpfakfpaaGreat.manifestAccepts
open Go.Proofs.YtkkocgjpfakfpaaGreat
theorem proved : Rows.ManifestAcceptsSaid := over Go.Abs.does9
#print axioms proved
end Go.Proofs.YtkkocgjpfakfpaaGreat.manifestAccepts

