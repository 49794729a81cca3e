/- BackupKeeps of law 31: Keep and Expire of the program return the lists of the specification, for all days, numbers of days and today; no condition. -/
import Derived.Test.YtafcagkhojhbbaaGreatKE2
import Derived.Test.YtafcagkhojhbbaaGreatKZ3
set_option linter.unusedSimpArgs false
set_option linter.unusedVariables false
namespace Go.Abs
open Go.Proofs
set_option maxRecDepth 1000000
/-- One contract, of one state. -/
def exC (f : FuncId) (A : List Value) (H : Heap) (v : Value) (H' : Heap) : CallC := fun f' args h => bif Nat.beq f' f then some (.eff v H' (args = A ∧ h = H)) else none
theorem exC_sound {f : FuncId} {A : List Value} {H : Heap} {v : Value} {H' : Heap} (hd : Does Tryz.prog f A H v H') : SoundC Tryz.prog (exC f A H v H') := by
  have key : ∀ f' args h r, exC f A H v H' f' args h = some r → r = .eff v H' (args = A ∧ h = H) ∧ f' = f := by
    intro f' args h r hr
    obtain ⟨h1, h2⟩ := cond_opt hr
    cases h2
    exact ⟨rfl, beqN h1⟩
  refine ⟨fun f' args h v' c hr hc => ?_, fun f' args h v' H1 c hr hc => ?_⟩
  · obtain ⟨h1, _⟩ := key _ _ _ _ hr; cases h1
  · obtain ⟨h1, rfl⟩ := key _ _ _ _ hr
    cases h1
    obtain ⟨rfl, rfl⟩ := hc
    exact hd
abbrev aE (v : Value) (t : Int) : List Value := [.agg mCat.toArray, i64 0, v, i64 t]
noncomputable def oo15 (A7 A8 : List Value) (H1 H2 H3 : Heap) (v7 v8 : Value) : OpO := orO (callO Tryz.prog (exC 7 A7 H1 v7 H2)) (callO Tryz.prog (exC 8 A8 H2 v8 H3))
noncomputable def oo16 : OpO := orO (forceO Tryz.prog 88 (.bool false)) (forceO Tryz.prog 94 (.bool false))
noncomputable def oo21 (a b : Value) : OpO := orO (idxO Tryz.prog 104) (orO (ldO Tryz.prog 105 a) (orO (idxO Tryz.prog 108) (orO (ldO Tryz.prog 109 b) (callO Tryz.prog (inC Tryz.prog cR (orO (forceO Tryz.prog 14 (.bool false)) (forceO Tryz.prog 20 (.bool false))) 60 [9])))))
def awG : List Value → Heap → Option CallR := fun args _ => match args with
  | [] => some (.same (.bool true) True)
  | _ => none
theorem aw4 : SoundC Tryz.prog (oneC 4 awG) := oneC_sound fun args H r h => by
  unfold awG at h
  split at h
  · cases h; exact fun _ => does4 H
  · cases h
end Go.Abs

