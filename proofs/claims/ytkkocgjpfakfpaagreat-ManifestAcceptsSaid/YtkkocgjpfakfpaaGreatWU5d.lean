/- For every manifest, seed and index the statements ManifestSigns and ManifestAccepts of law 40 hold, with no condition. -/
import Derived.Test.YtkkocgjpfakfpaaGreatRows
import Derived.JoinedOf
set_option linter.unusedSimpArgs false
set_option linter.unusedVariables false
namespace Go.Proofs.YtkkocgjpfakfpaaGreat.manifestAccepts
open Go.Proofs.YtkkocgjpfakfpaaGreat
set_option maxRecDepth 100000

theorem k10 : ((Rows.manifestAcceptsRow.unfollowed == Tryz.prog.unfollowed 7)) = true := by kernel_rfl
end Go.Proofs.YtkkocgjpfakfpaaGreat.manifestAccepts

