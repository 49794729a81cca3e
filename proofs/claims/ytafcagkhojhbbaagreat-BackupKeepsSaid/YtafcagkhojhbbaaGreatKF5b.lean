/- BackupKeeps of law 31: Keep and Expire of the program return the lists of the specification, for all days, numbers of days and today; no condition. -/
import Derived.Test.YtafcagkhojhbbaaGreatRows
import Derived.JoinedOf
set_option linter.unusedSimpArgs false
set_option linter.unusedVariables false
namespace Go.Proofs.YtafcagkhojhbbaaGreat.backupKeeps
open Go.Proofs.YtafcagkhojhbbaaGreat
set_option maxRecDepth 100000

theorem k1 : (laidOutB Tryz.prog) = true := by kernel_rfl
theorem k22 : ((Rows.backupKeepsRow.plainKeys == Tryz.prog.plainKeys)) = true := by kernel_rfl
theorem k24 : (Tryz.prog.stopsHeard) = true := by kernel_rfl
theorem k26 : ((Rows.backupKeepsRow.lifted == Tryz.prog.liftsFinal)) = true := by kernel_rfl
end Go.Proofs.YtafcagkhojhbbaaGreat.backupKeeps

