/- BackupKeeps of law 31: Keep and Expire of the program return the lists of the specification, for all days, numbers of days and today; no condition. -/
import Derived.Test.YtafcagkhojhbbaaGreatKD2
import Derived.Test.YtafcagkhojhbbaaGreatKF5a
import Derived.Test.YtafcagkhojhbbaaGreatKF5b
import Derived.Test.YtafcagkhojhbbaaGreatKF5c
import Derived.Test.YtafcagkhojhbbaaGreatKF5d
import Derived.Test.YtafcagkhojhbbaaGreatKF5e
import Derived.Test.YtafcagkhojhbbaaGreatKF5g
import Derived.Test.YtafcagkhojhbbaaGreatKF5h
set_option linter.unusedSimpArgs false
set_option linter.unusedVariables false
namespace Go.Proofs.YtafcagkhojhbbaaGreat.backupKeeps
open Go.ChangeShapes Go.WideShapes Go.ChangeAt Go.RowKit Go.Abs
open Go.Proofs.YtafcagkhojhbbaaGreat

theorem andT {a b : Bool} (h : a = true) (h' : b = true) : (a && b) = true := by rw [h, h']; rfl
set_option maxRecDepth 100000 in
theorem facts : joinedFacts Tryz.prog 3 Tryz.f3 Rows.backupKeepsSpec Rows.backupKeepsRow = true := by
  unfold joinedFacts
  exact (andT (andT (andT (andT (andT (andT (andT (andT (andT (andT (andT (andT (andT (andT (andT (andT (andT (andT (andT (andT (andT (andT (andT (andT (andT (andT (andT (andT (andT (andT (andT k0 k1) k2) k3) k4) k5) k6) k7) k8) k9) k10) k11) k12) k13) k14) k15) k16) k17) k18) k19) k20) k21) k22) k23) k24) k25) k26) k27) k28) k29) k30) k31)
theorem named : Tryz.prog.funcNamed Rows.backupKeepsRow.func = some 3 := by kernel_rfl
theorem inst : Tryz.f3.isInstance Tryz.prog Rows.backupKeepsRow.origin Rows.backupKeepsRow.targs := of_decide_eq_true (by kernel_rfl)
theorem wrap : Tryz.f3.isWrapper Tryz.prog Rows.backupKeepsRow.wrapper Rows.backupKeepsRow.mainSum := by unfold Func.isWrapper; first | (rw [if_pos (by decide +kernel)]; kernel_rfl) | (rw [if_neg (by decide +kernel)]; exact ⟨rfl, rfl⟩)
theorem proved : Rows.BackupKeepsSaid :=
  OpenClaim.holds_of_wide (p := Tryz.pinned) (s := Rows.backupKeepsSpec) (c := Rows.backupKeepsRow) 3 Tryz.f3 rfl rfl rfl rfl rfl rfl rfl ⟨rfl, rfl, rfl, rfl, rfl⟩ rfl rfl rfl rfl rfl named Tryz.func3 facts inst wrap
    (fun os started H enc _ => lifted os started H enc)
end Go.Proofs.YtafcagkhojhbbaaGreat.backupKeeps

