/- A part of the proof that the law ManifestLeaves returns true at every input and leaves its arguments as they were; no condition. -/
import Derived.Test.YtkkocgjpfakfpaaGreatQL4
import Derived.Test.YtkkocgjpfakfpaaGreatQL5a
import Derived.Test.YtkkocgjpfakfpaaGreatQL5b
import Derived.Test.YtkkocgjpfakfpaaGreatQL5c
import Derived.Test.YtkkocgjpfakfpaaGreatQL5d
import Derived.Test.YtkkocgjpfakfpaaGreatQL5e
import Derived.Test.YtkkocgjpfakfpaaGreatQL5g
import Derived.Test.YtkkocgjpfakfpaaGreatQL5h
namespace Go.Proofs.YtkkocgjpfakfpaaGreat.manifestLeaves
open Go.ChangeShapes Go.WideShapes Go.ChangeAt Go.RowKit Go.Abs
open Go.Proofs.YtkkocgjpfakfpaaGreat

theorem andT {a b : Bool} (h : a = true) (h' : b = true) : (a && b) = true := by rw [h, h']; rfl
set_option maxRecDepth 100000 in
theorem facts : joinedFacts Tryz.prog 4 Tryz.f4 Rows.manifestLeavesSpec Rows.manifestLeavesRow = true := by
  unfold joinedFacts
  exact (andT (andT (andT (andT (andT (andT (andT (andT (andT (andT (andT (andT (andT (andT (andT (andT (andT (andT (andT (andT (andT (andT (andT (andT (andT (andT (andT (andT (andT (andT (andT k0 k1) k2) k3) k4) k5) k6) k7) k8) k9) k10) k11) k12) k13) k14) k15) k16) k17) k18) k19) k20) k21) k22) k23) k24) k25) k26) k27) k28) k29) k30) k31)
theorem named : Tryz.prog.funcNamed Rows.manifestLeavesRow.func = some 4 := by kernel_rfl
theorem inst : Tryz.f4.isInstance Tryz.prog Rows.manifestLeavesRow.origin Rows.manifestLeavesRow.targs := of_decide_eq_true (by kernel_rfl)
theorem wrap : Tryz.f4.isWrapper Tryz.prog Rows.manifestLeavesRow.wrapper Rows.manifestLeavesRow.mainSum := by unfold Func.isWrapper; first | (rw [if_pos (by decide +kernel)]; kernel_rfl) | (rw [if_neg (by decide +kernel)]; exact ⟨rfl, rfl⟩)
theorem over (h9 : ∀ H, Does Tryz.prog 9 [] H (.bool true) H) : Rows.ManifestLeavesSaid :=
  OpenClaim.holds_of_wide (p := Tryz.pinned) (s := Rows.manifestLeavesSpec) (c := Rows.manifestLeavesRow) 4 Tryz.f4 rfl rfl rfl rfl rfl rfl rfl ⟨rfl, rfl, rfl, rfl, rfl⟩ rfl rfl rfl rfl rfl named Tryz.func4 facts inst wrap
    (fun os started H enc _ => lifted h9 os started H enc)
end Go.Proofs.YtkkocgjpfakfpaaGreat.manifestLeaves

