/-
  No cell of these rows narrows 'for every input' (looked for: loops, veiled, ifaces, maps, wideKeys, modest, calm, conditions, laid).
  DERIVED. THE GIVEN ROWS OF THIS SEAT. 5 by the template 'for every input the law returns true; each argument reads behind the call as it read before'; 0 by the template 'total and deterministic' (their statements: YtkkocgjpfakfpaaGreatTotals.lean).
  GIVEN WITH THE SEED: the statements are not yours to turn. If you find one false, say at which input.
  Laid BY PROGRAM, IN A SANDBOX (cutbox-rows.mjs): the forced cells as the released guide's own fill.sh prints them over the translation 28506ae1444c34f3… (all of the seat's roots in one cut). By AI agents, Wed Nov 11 2026. No macro, syntax, notation, axiom, sorry.
-/
import Derived.Test.YtkkocgjpfakfpaaGreatChecked
import GoSem.Claim
import GoSem.ClaimJoined
import GoSem.ClaimMapViews
import Derived.JoinedTies
import Derived.KernelRfl
namespace Go.Proofs.YtkkocgjpfakfpaaGreat
/- THE CELL 'sum', in the pinned program and in every row, IS THE sha256 OF THE DUMP (.gsa) THAT YtkkocgjpfakfpaaGreatProg.lean LOADS. Nothing in Lean hashes anything: it is a label: what it is worth is what the hold of that sum in a sandbox is worth. -/
noncomputable def Tryz.pinned : Pinned := { name := "ytkkocgjpfakfpaagreat", sum := "28506ae1444c34f340eeafd3e3d633752891a2413256ac8832638ec168fdc795", checked := Tryz.checked }
namespace Rows
def none {H : Type} : Left H := { results := [], args := [] }

/-- 'erasurelaw40.ManifestParts': WHATEVER THE INPUT: true; the input reads as it did. -/
def manifestPartsSpec : ChangeSpec := { name := "manifestParts", fn := fun _ => fun
  | [d1, d2, d3] => { results := [.lit (.bool true)], args := [d1, d2, d3] }
  | _ => none }
def manifestPartsRow : OpenClaim := { program := "ytkkocgjpfakfpaagreat", sum := "28506ae1444c34f340eeafd3e3d633752891a2413256ac8832638ec168fdc795", func := "erasure/erasurelaw40.ManifestParts", spec := "manifestParts", inPlace := ["internal/bytealg.abigen_runtime_cmpstring", "internal/bytealg.Compare", "slices.overlaps[erasure/api.Record]"], unfollowed := true, recurses := true, plainKeys := false, apart := false }
def ManifestPartsSaid : Prop := manifestPartsRow.holds Tryz.pinned (OpenSpec.ofChange manifestPartsSpec)

/-- ITS FALSE NEIGHBOUR: 'it returns false'. Refute it at one input. -/
def manifestPartsWrong : ChangeSpec := { name := "manifestParts", fn := fun _ => fun
  | [d1, d2, d3] => { results := [.lit (.bool false)], args := [d1, d2, d3] }
  | _ => none }
def ManifestPartsWrongFalsely : Prop := manifestPartsRow.holds Tryz.pinned (OpenSpec.ofChange manifestPartsWrong)

/-- 'erasurelaw40.ManifestLeaves': WHATEVER THE INPUT: true; the input reads as it did. -/
def manifestLeavesSpec : ChangeSpec := { name := "manifestLeaves", fn := fun _ => fun
  | [d] => { results := [.lit (.bool true)], args := [d] }
  | _ => none }
def manifestLeavesRow : OpenClaim := { program := "ytkkocgjpfakfpaagreat", sum := "28506ae1444c34f340eeafd3e3d633752891a2413256ac8832638ec168fdc795", func := "erasure/erasurelaw40.ManifestLeaves", spec := "manifestLeaves", inPlace := ["internal/bytealg.abigen_runtime_cmpstring", "internal/bytealg.Compare", "slices.overlaps[erasure/api.Record]"], unfollowed := true, recurses := true, plainKeys := false, apart := false }
def ManifestLeavesSaid : Prop := manifestLeavesRow.holds Tryz.pinned (OpenSpec.ofChange manifestLeavesSpec)

/-- ITS FALSE NEIGHBOUR: 'it returns false'. Refute it at one input. -/
def manifestLeavesWrong : ChangeSpec := { name := "manifestLeaves", fn := fun _ => fun
  | [d] => { results := [.lit (.bool false)], args := [d] }
  | _ => none }
def ManifestLeavesWrongFalsely : Prop := manifestLeavesRow.holds Tryz.pinned (OpenSpec.ofChange manifestLeavesWrong)

/-- 'erasurelaw40.ManifestProofs': WHATEVER THE INPUT: true; the input reads as it did. -/
def manifestProofsSpec : ChangeSpec := { name := "manifestProofs", fn := fun _ => fun
  | [d1, d2, d3] => { results := [.lit (.bool true)], args := [d1, d2, d3] }
  | _ => none }
def manifestProofsRow : OpenClaim := { program := "ytkkocgjpfakfpaagreat", sum := "28506ae1444c34f340eeafd3e3d633752891a2413256ac8832638ec168fdc795", func := "erasure/erasurelaw40.ManifestProofs", spec := "manifestProofs", inPlace := ["internal/bytealg.abigen_runtime_cmpstring", "internal/bytealg.Compare", "slices.overlaps[erasure/api.Record]"], unfollowed := true, recurses := true, plainKeys := false, apart := false }
def ManifestProofsSaid : Prop := manifestProofsRow.holds Tryz.pinned (OpenSpec.ofChange manifestProofsSpec)

/-- ITS FALSE NEIGHBOUR: 'it returns false'. Refute it at one input. -/
def manifestProofsWrong : ChangeSpec := { name := "manifestProofs", fn := fun _ => fun
  | [d1, d2, d3] => { results := [.lit (.bool false)], args := [d1, d2, d3] }
  | _ => none }
def ManifestProofsWrongFalsely : Prop := manifestProofsRow.holds Tryz.pinned (OpenSpec.ofChange manifestProofsWrong)

/-- 'erasurelaw40.ManifestSigns': WHATEVER THE INPUT: true; the input reads as it did. -/
def manifestSignsSpec : ChangeSpec := { name := "manifestSigns", fn := fun _ => fun
  | [d1, d2, d3] => { results := [.lit (.bool true)], args := [d1, d2, d3] }
  | _ => none }
def manifestSignsRow : OpenClaim := { program := "ytkkocgjpfakfpaagreat", sum := "28506ae1444c34f340eeafd3e3d633752891a2413256ac8832638ec168fdc795", func := "erasure/erasurelaw40.ManifestSigns", spec := "manifestSigns", inPlace := ["internal/bytealg.abigen_runtime_cmpstring", "internal/bytealg.Compare", "slices.overlaps[erasure/api.Record]"], unfollowed := true, recurses := true, plainKeys := false, apart := false }
def ManifestSignsSaid : Prop := manifestSignsRow.holds Tryz.pinned (OpenSpec.ofChange manifestSignsSpec)

/-- ITS FALSE NEIGHBOUR: 'it returns false'. Refute it at one input. -/
def manifestSignsWrong : ChangeSpec := { name := "manifestSigns", fn := fun _ => fun
  | [d1, d2, d3] => { results := [.lit (.bool false)], args := [d1, d2, d3] }
  | _ => none }
def ManifestSignsWrongFalsely : Prop := manifestSignsRow.holds Tryz.pinned (OpenSpec.ofChange manifestSignsWrong)

/-- 'erasurelaw40.ManifestAccepts': WHATEVER THE INPUT: true; the input reads as it did. -/
def manifestAcceptsSpec : ChangeSpec := { name := "manifestAccepts", fn := fun _ => fun
  | [d1, d2, d3] => { results := [.lit (.bool true)], args := [d1, d2, d3] }
  | _ => none }
def manifestAcceptsRow : OpenClaim := { program := "ytkkocgjpfakfpaagreat", sum := "28506ae1444c34f340eeafd3e3d633752891a2413256ac8832638ec168fdc795", func := "erasure/erasurelaw40.ManifestAccepts", spec := "manifestAccepts", inPlace := ["internal/bytealg.abigen_runtime_cmpstring", "internal/bytealg.Compare", "slices.overlaps[erasure/api.Record]"], unfollowed := true, recurses := true, plainKeys := false, apart := false }
def ManifestAcceptsSaid : Prop := manifestAcceptsRow.holds Tryz.pinned (OpenSpec.ofChange manifestAcceptsSpec)

/-- ITS FALSE NEIGHBOUR: 'it returns false'. Refute it at one input. -/
def manifestAcceptsWrong : ChangeSpec := { name := "manifestAccepts", fn := fun _ => fun
  | [d1, d2, d3] => { results := [.lit (.bool false)], args := [d1, d2, d3] }
  | _ => none }
def ManifestAcceptsWrongFalsely : Prop := manifestAcceptsRow.holds Tryz.pinned (OpenSpec.ofChange manifestAcceptsWrong)

/- THE SECOND FORM. 'bulk': how many values and letters a reading holds, each counted each time it is reached (what is shared counts as often as it is met; a slice's spare places count too). A statement '..UptoSaid' is the law's where the arguments, and the package variables that the reading takes, are together of bulk at most 1048576: NARROWER than '..Said'. Prove '..Said' where nothing that the law and all that it calls make is longer than what came in: it says more and counts as full. Else prove '..UptoSaid'. A law counts once. -/
mutual
def uptoBulk {H : Type} : DataW H → Nat
  | .lit (.string bytes) => bytes.length + 1
  | .lit _ => 1
  | .nil => 1
  | .ptr d => uptoBulk d + 1
  | .slice elems spare => uptoBulkAll elems + uptoBulkAll spare + 1
  | .agg parts => uptoBulkAll parts + 1
  | .iface _ d => uptoBulk d + 1
  | .map entries => uptoBulkEntries entries + 1
  | .held _ => 1
def uptoBulkAll {H : Type} : List (DataW H) → Nat
  | [] => 0
  | d :: r => uptoBulk d + uptoBulkAll r
def uptoBulkEntries {H : Type} : List (Lit × DataW H) → Nat
  | [] => 0
  | x :: r => uptoBulkEntry x + uptoBulkEntries r
def uptoBulkEntry {H : Type} : Lit × DataW H → Nat
  | (.string bytes, d) => bytes.length + uptoBulk d + 1
  | (_, d) => uptoBulk d + 1
 end
def uptoSmall : (H : Type) → List (DataW H) → Bool := fun _ ds => decide (uptoBulkAll ds ≤ 1048576)
def OpenSpec.upto (s : _root_.Go.ChangeSpec) : _root_.Go.OpenSpec := { _root_.Go.OpenSpec.ofChange s with cond := some uptoSmall }

/-- 'erasurelaw40.ManifestParts', WHERE WHAT IT READS IS OF BULK AT MOST 1048576: true; the input reads as it did. -/
def manifestPartsUptoRow : OpenClaim := { program := "ytkkocgjpfakfpaagreat", sum := "28506ae1444c34f340eeafd3e3d633752891a2413256ac8832638ec168fdc795", func := "erasure/erasurelaw40.ManifestParts", spec := "manifestParts", inPlace := ["internal/bytealg.abigen_runtime_cmpstring", "internal/bytealg.Compare", "slices.overlaps[erasure/api.Record]"], unfollowed := true, recurses := true, plainKeys := false, apart := false, narrowed := true }
def ManifestPartsUptoSaid : Prop := manifestPartsUptoRow.holds Tryz.pinned (OpenSpec.upto manifestPartsSpec)

/-- 'erasurelaw40.ManifestLeaves', WHERE WHAT IT READS IS OF BULK AT MOST 1048576: true; the input reads as it did. -/
def manifestLeavesUptoRow : OpenClaim := { program := "ytkkocgjpfakfpaagreat", sum := "28506ae1444c34f340eeafd3e3d633752891a2413256ac8832638ec168fdc795", func := "erasure/erasurelaw40.ManifestLeaves", spec := "manifestLeaves", inPlace := ["internal/bytealg.abigen_runtime_cmpstring", "internal/bytealg.Compare", "slices.overlaps[erasure/api.Record]"], unfollowed := true, recurses := true, plainKeys := false, apart := false, narrowed := true }
def ManifestLeavesUptoSaid : Prop := manifestLeavesUptoRow.holds Tryz.pinned (OpenSpec.upto manifestLeavesSpec)

/-- 'erasurelaw40.ManifestProofs', WHERE WHAT IT READS IS OF BULK AT MOST 1048576: true; the input reads as it did. -/
def manifestProofsUptoRow : OpenClaim := { program := "ytkkocgjpfakfpaagreat", sum := "28506ae1444c34f340eeafd3e3d633752891a2413256ac8832638ec168fdc795", func := "erasure/erasurelaw40.ManifestProofs", spec := "manifestProofs", inPlace := ["internal/bytealg.abigen_runtime_cmpstring", "internal/bytealg.Compare", "slices.overlaps[erasure/api.Record]"], unfollowed := true, recurses := true, plainKeys := false, apart := false, narrowed := true }
def ManifestProofsUptoSaid : Prop := manifestProofsUptoRow.holds Tryz.pinned (OpenSpec.upto manifestProofsSpec)

/-- 'erasurelaw40.ManifestSigns', WHERE WHAT IT READS IS OF BULK AT MOST 1048576: true; the input reads as it did. -/
def manifestSignsUptoRow : OpenClaim := { program := "ytkkocgjpfakfpaagreat", sum := "28506ae1444c34f340eeafd3e3d633752891a2413256ac8832638ec168fdc795", func := "erasure/erasurelaw40.ManifestSigns", spec := "manifestSigns", inPlace := ["internal/bytealg.abigen_runtime_cmpstring", "internal/bytealg.Compare", "slices.overlaps[erasure/api.Record]"], unfollowed := true, recurses := true, plainKeys := false, apart := false, narrowed := true }
def ManifestSignsUptoSaid : Prop := manifestSignsUptoRow.holds Tryz.pinned (OpenSpec.upto manifestSignsSpec)

/-- 'erasurelaw40.ManifestAccepts', WHERE WHAT IT READS IS OF BULK AT MOST 1048576: true; the input reads as it did. -/
def manifestAcceptsUptoRow : OpenClaim := { program := "ytkkocgjpfakfpaagreat", sum := "28506ae1444c34f340eeafd3e3d633752891a2413256ac8832638ec168fdc795", func := "erasure/erasurelaw40.ManifestAccepts", spec := "manifestAccepts", inPlace := ["internal/bytealg.abigen_runtime_cmpstring", "internal/bytealg.Compare", "slices.overlaps[erasure/api.Record]"], unfollowed := true, recurses := true, plainKeys := false, apart := false, narrowed := true }
def ManifestAcceptsUptoSaid : Prop := manifestAcceptsUptoRow.holds Tryz.pinned (OpenSpec.upto manifestAcceptsSpec)

end Rows
end Go.Proofs.YtkkocgjpfakfpaaGreat
