/- A part of the proof that the law ManifestParts returns true at every input and leaves its arguments as they were; no condition. -/
import Derived.Test.YtkkocgjpfakfpaaGreatD4
import Derived.Test.YtkkocgjpfakfpaaGreatD5a
import Derived.Test.YtkkocgjpfakfpaaGreatD5b
import Derived.Test.YtkkocgjpfakfpaaGreatD5c
import Derived.Test.YtkkocgjpfakfpaaGreatD5d
import Derived.Test.YtkkocgjpfakfpaaGreatD5e
import Derived.Test.YtkkocgjpfakfpaaGreatD5g
import Derived.Test.YtkkocgjpfakfpaaGreatD5h
namespace Go.Proofs.YtkkocgjpfakfpaaGreat.manifestParts
open Go.ChangeShapes Go.WideShapes Go.ChangeAt Go.RowKit Go.Abs
open Go.Proofs.YtkkocgjpfakfpaaGreat

theorem andT {a b : Bool} (h : a = true) (h' : b = true) : (a && b) = true := by rw [h, h']; rfl
set_option maxRecDepth 100000 in
theorem facts : joinedFacts Tryz.prog 3 Tryz.f3 Rows.manifestPartsSpec Rows.manifestPartsRow = true := by
  unfold joinedFacts
  exact (andT (andT (andT (andT (andT (andT (andT (andT (andT (andT (andT (andT (andT (andT (andT (andT (andT (andT (andT (andT (andT (andT (andT (andT (andT (andT (andT (andT (andT (andT (andT k0 k1) k2) k3) k4) k5) k6) k7) k8) k9) k10) k11) k12) k13) k14) k15) k16) k17) k18) k19) k20) k21) k22) k23) k24) k25) k26) k27) k28) k29) k30) k31)
theorem named3 : Tryz.prog.funcNamed Rows.manifestPartsRow.func = some 3 := by kernel_rfl
theorem inst3 : Tryz.f3.isInstance Tryz.prog Rows.manifestPartsRow.origin Rows.manifestPartsRow.targs := of_decide_eq_true (by kernel_rfl)
theorem wrap3 : Tryz.f3.isWrapper Tryz.prog Rows.manifestPartsRow.wrapper Rows.manifestPartsRow.mainSum := by unfold Func.isWrapper; first | (rw [if_pos (by decide +kernel)]; kernel_rfl) | (rw [if_neg (by decide +kernel)]; exact ⟨rfl, rfl⟩)
theorem over (h9 : ∀ H, Does Tryz.prog 9 [] H (.bool true) H) : Rows.ManifestPartsSaid :=
  OpenClaim.holds_of_wide (p := Tryz.pinned) (s := Rows.manifestPartsSpec) (c := Rows.manifestPartsRow) 3 Tryz.f3 rfl rfl rfl rfl rfl rfl rfl ⟨rfl, rfl, rfl, rfl, rfl⟩ rfl rfl rfl rfl rfl named3 Tryz.func3 facts inst3 wrap3
    (fun os started H enc _ => lifted h9 os started H enc)
#print axioms over
end Go.Proofs.YtkkocgjpfakfpaaGreat.manifestParts

