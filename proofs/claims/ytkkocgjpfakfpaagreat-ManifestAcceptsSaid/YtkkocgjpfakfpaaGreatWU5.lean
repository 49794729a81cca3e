/- For every manifest, seed and index the statements ManifestSigns and ManifestAccepts of law 40 hold, with no condition. -/
import Derived.Test.YtkkocgjpfakfpaaGreatWU4
import Derived.Test.YtkkocgjpfakfpaaGreatWU5a
import Derived.Test.YtkkocgjpfakfpaaGreatWU5b
import Derived.Test.YtkkocgjpfakfpaaGreatWU5c
import Derived.Test.YtkkocgjpfakfpaaGreatWU5d
import Derived.Test.YtkkocgjpfakfpaaGreatWU5e
import Derived.Test.YtkkocgjpfakfpaaGreatWU5g
import Derived.Test.YtkkocgjpfakfpaaGreatWU5h
set_option linter.unusedSimpArgs false
set_option linter.unusedVariables false
namespace Go.Proofs.YtkkocgjpfakfpaaGreat.manifestAccepts
open Go.ChangeShapes Go.WideShapes Go.ChangeAt Go.RowKit Go.Abs
open Go.Proofs.YtkkocgjpfakfpaaGreat

theorem andT {a b : Bool} (h : a = true) (h' : b = true) : (a && b) = true := by rw [h, h']; rfl
set_option maxRecDepth 100000 in
theorem facts : joinedFacts Tryz.prog 7 Tryz.f7 Rows.manifestAcceptsSpec Rows.manifestAcceptsRow = true := by
  unfold joinedFacts
  exact (andT (andT (andT (andT (andT (andT (andT (andT (andT (andT (andT (andT (andT (andT (andT (andT (andT (andT (andT (andT (andT (andT (andT (andT (andT (andT (andT (andT (andT (andT (andT k0 k1) k2) k3) k4) k5) k6) k7) k8) k9) k10) k11) k12) k13) k14) k15) k16) k17) k18) k19) k20) k21) k22) k23) k24) k25) k26) k27) k28) k29) k30) k31)
theorem named : Tryz.prog.funcNamed Rows.manifestAcceptsRow.func = some 7 := by kernel_rfl
theorem inst : Tryz.f7.isInstance Tryz.prog Rows.manifestAcceptsRow.origin Rows.manifestAcceptsRow.targs := of_decide_eq_true (by kernel_rfl)
theorem wrap : Tryz.f7.isWrapper Tryz.prog Rows.manifestAcceptsRow.wrapper Rows.manifestAcceptsRow.mainSum := by unfold Func.isWrapper; first | (rw [if_pos (by decide +kernel)]; kernel_rfl) | (rw [if_neg (by decide +kernel)]; exact ⟨rfl, rfl⟩)
theorem over (h9 : ∀ H, Does Tryz.prog 9 [] H (.bool true) H) : Rows.ManifestAcceptsSaid :=
  OpenClaim.holds_of_wide (p := Tryz.pinned) (s := Rows.manifestAcceptsSpec) (c := Rows.manifestAcceptsRow) 7 Tryz.f7 rfl rfl rfl rfl rfl rfl rfl ⟨rfl, rfl, rfl, rfl, rfl⟩ rfl rfl rfl rfl rfl named Tryz.func7 facts inst wrap
    (fun os started H enc _ => lifted h9 os started H enc)
end Go.Proofs.YtkkocgjpfakfpaaGreat.manifestAccepts

