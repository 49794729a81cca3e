/- BackupKeeps of law 31: Keep and Expire of the program return the lists of the specification, for all days, numbers of days and today; no condition. -/
import Derived.Test.YtafcagkhojhbbaaGreatRows
import Derived.JoinedOf
set_option linter.unusedSimpArgs false
set_option linter.unusedVariables false
namespace Go.Proofs.YtafcagkhojhbbaaGreat.backupKeeps
open Go.Proofs.YtafcagkhojhbbaaGreat
set_option maxRecDepth 100000

theorem k12 : ((Rows.backupKeepsRow.named == Tryz.prog.varsNamed 3)) = true := by kernel_rfl
end Go.Proofs.YtafcagkhojhbbaaGreat.backupKeeps

