/- A part of the proof that the law ManifestProofs returns true at every input and leaves its arguments as they were; no condition. -/
import Derived.Test.YtkkocgjpfakfpaaGreatSN4
import Derived.Test.YtkkocgjpfakfpaaGreatSN5a
import Derived.Test.YtkkocgjpfakfpaaGreatSN5b
import Derived.Test.YtkkocgjpfakfpaaGreatSN5c
import Derived.Test.YtkkocgjpfakfpaaGreatSN5d
import Derived.Test.YtkkocgjpfakfpaaGreatSN5e
import Derived.Test.YtkkocgjpfakfpaaGreatSN5g
import Derived.Test.YtkkocgjpfakfpaaGreatSN5h
set_option linter.unusedSimpArgs false
set_option linter.unusedVariables false
namespace Go.Proofs.YtkkocgjpfakfpaaGreat.manifestProofs
open Go.ChangeShapes Go.WideShapes Go.ChangeAt Go.RowKit Go.Abs
open Go.Proofs.YtkkocgjpfakfpaaGreat

theorem andT {a b : Bool} (h : a = true) (h' : b = true) : (a && b) = true := by rw [h, h']; rfl
set_option maxRecDepth 100000 in
theorem facts : joinedFacts Tryz.prog 5 Tryz.f5 Rows.manifestProofsSpec Rows.manifestProofsRow = true := by
  unfold joinedFacts
  exact (andT (andT (andT (andT (andT (andT (andT (andT (andT (andT (andT (andT (andT (andT (andT (andT (andT (andT (andT (andT (andT (andT (andT (andT (andT (andT (andT (andT (andT (andT (andT k0 k1) k2) k3) k4) k5) k6) k7) k8) k9) k10) k11) k12) k13) k14) k15) k16) k17) k18) k19) k20) k21) k22) k23) k24) k25) k26) k27) k28) k29) k30) k31)
theorem named : Tryz.prog.funcNamed Rows.manifestProofsRow.func = some 5 := by kernel_rfl
theorem inst : Tryz.f5.isInstance Tryz.prog Rows.manifestProofsRow.origin Rows.manifestProofsRow.targs := of_decide_eq_true (by kernel_rfl)
theorem wrap : Tryz.f5.isWrapper Tryz.prog Rows.manifestProofsRow.wrapper Rows.manifestProofsRow.mainSum := by unfold Func.isWrapper; first | (rw [if_pos (by decide +kernel)]; kernel_rfl) | (rw [if_neg (by decide +kernel)]; exact ⟨rfl, rfl⟩)
theorem over (h9 : ∀ H, Does Tryz.prog 9 [] H (.bool true) H) : Rows.ManifestProofsSaid :=
  OpenClaim.holds_of_wide (p := Tryz.pinned) (s := Rows.manifestProofsSpec) (c := Rows.manifestProofsRow) 5 Tryz.f5 rfl rfl rfl rfl rfl rfl rfl ⟨rfl, rfl, rfl, rfl, rfl⟩ rfl rfl rfl rfl rfl named Tryz.func5 facts inst wrap
    (fun os started H enc _ => lifted h9 os started H enc)
end Go.Proofs.YtkkocgjpfakfpaaGreat.manifestProofs

