/- For every manifest, seed and index the statements ManifestSigns and ManifestAccepts of law 40 hold, with no condition. -/
import Derived.Test.YtkkocgjpfakfpaaGreatWQ4
import Derived.Test.YtkkocgjpfakfpaaGreatWQ5a
import Derived.Test.YtkkocgjpfakfpaaGreatWQ5b
import Derived.Test.YtkkocgjpfakfpaaGreatWQ5c
import Derived.Test.YtkkocgjpfakfpaaGreatWQ5d
import Derived.Test.YtkkocgjpfakfpaaGreatWQ5e
import Derived.Test.YtkkocgjpfakfpaaGreatWQ5g
import Derived.Test.YtkkocgjpfakfpaaGreatWQ5h
set_option linter.unusedSimpArgs false
set_option linter.unusedVariables false
namespace Go.Proofs.YtkkocgjpfakfpaaGreat.manifestSigns
open Go.ChangeShapes Go.WideShapes Go.ChangeAt Go.RowKit Go.Abs
open Go.Proofs.YtkkocgjpfakfpaaGreat

theorem andT {a b : Bool} (h : a = true) (h' : b = true) : (a && b) = true := by rw [h, h']; rfl
set_option maxRecDepth 100000 in
theorem facts : joinedFacts Tryz.prog 6 Tryz.f6 Rows.manifestSignsSpec Rows.manifestSignsRow = true := by
  unfold joinedFacts
  exact (andT (andT (andT (andT (andT (andT (andT (andT (andT (andT (andT (andT (andT (andT (andT (andT (andT (andT (andT (andT (andT (andT (andT (andT (andT (andT (andT (andT (andT (andT (andT k0 k1) k2) k3) k4) k5) k6) k7) k8) k9) k10) k11) k12) k13) k14) k15) k16) k17) k18) k19) k20) k21) k22) k23) k24) k25) k26) k27) k28) k29) k30) k31)
theorem named : Tryz.prog.funcNamed Rows.manifestSignsRow.func = some 6 := by kernel_rfl
theorem inst : Tryz.f6.isInstance Tryz.prog Rows.manifestSignsRow.origin Rows.manifestSignsRow.targs := of_decide_eq_true (by kernel_rfl)
theorem wrap : Tryz.f6.isWrapper Tryz.prog Rows.manifestSignsRow.wrapper Rows.manifestSignsRow.mainSum := by unfold Func.isWrapper; first | (rw [if_pos (by decide +kernel)]; kernel_rfl) | (rw [if_neg (by decide +kernel)]; exact ⟨rfl, rfl⟩)
theorem over (h9 : ∀ H, Does Tryz.prog 9 [] H (.bool true) H) : Rows.ManifestSignsSaid :=
  OpenClaim.holds_of_wide (p := Tryz.pinned) (s := Rows.manifestSignsSpec) (c := Rows.manifestSignsRow) 6 Tryz.f6 rfl rfl rfl rfl rfl rfl rfl ⟨rfl, rfl, rfl, rfl, rfl⟩ rfl rfl rfl rfl rfl named Tryz.func6 facts inst wrap
    (fun os started H enc _ => lifted h9 os started H enc)
end Go.Proofs.YtkkocgjpfakfpaaGreat.manifestSigns

