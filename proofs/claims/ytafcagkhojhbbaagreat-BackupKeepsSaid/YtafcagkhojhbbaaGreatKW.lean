/- BackupKeeps of law 31: Keep and Expire of the program return the lists of the specification, for all days, numbers of days and today; no condition. -/
import Derived.Test.YtafcagkhojhbbaaGreatKS
set_option linter.unusedSimpArgs false
set_option linter.unusedVariables false
namespace Go.Abs
open Go.Proofs
set_option maxRecDepth 1000000
noncomputable def ooW : OpO := orO (forceO Tryz.prog 9 (.bool true)) (forceO Tryz.prog 13 (.bool true))
noncomputable def bsW : OpO := callO Tryz.prog (inC Tryz.prog noO ooW 60 [145, 162])
noncomputable def cW : CallF := runF Tryz.prog noO 300
theorem cW_sound : ∀ f args H v h, cW f args H = some (v, h) → Does Tryz.prog f args H v (h.getD H) := fun _ _ _ _ _ h => runF_sound hm noO_sound h
theorem bsW_sound : SoundO Tryz.prog bsW := callO_sound (inC_sound hm noO_sound (orO_sound forceO_sound forceO_sound))
def vW (r : Option CallR) : Option (Value × Nat × Prop) := match r with
  | some (.eff v H c) => some (v, H.next, c)
  | some (.same v c) => some (v, 0, c)
  | none => none
theorem run40 (K : Int) : vW (inC Tryz.prog cW (deepO Tryz.prog cW bsW 200 [77, 116] 2) 200 [40] 40 [.agg cAgg.toArray] (HV K))
  = some (.bool true, 44, (((some (Value.bool (decide (K ≤ 1048576))) = some (Value.bool true) ∧ some (Value.bool (decide (K ≥ 1))) = some (Value.bool true) ∧ True) ∧ True) ∧ True) ∧ True) := by kernel_rfl
theorem run42 (K : Int) : vW (inC Tryz.prog cW (deepO Tryz.prog cW bsW 200 [79, 121, 176] 3) 200 [42] 42 [.agg cAgg.toArray] (HV K))
  = some (.bool true, 34, ((((some (Value.bool (decide (K ≤ 1048576))) = some (Value.bool true) ∧ some (Value.bool (decide (K ≥ 1))) = some (Value.bool true) ∧ True) ∧ True) ∧ True) ∧ True) ∧ True) := by kernel_rfl
theorem does_vW {s : CallC} (hs : SoundC Tryz.prog s) {f : FuncId} {args : List Value} {H : Heap} {v : Value} {k : Nat} {c : Prop} (h : vW (s f args H) = some (v, k, c)) (hc : c) : ∃ H', Does Tryz.prog f args H v H' := by
  unfold vW at h
  split at h
  · rename_i v' H' c' hr
    simp only [Option.some.injEq, Prod.mk.injEq] at h
    obtain ⟨rfl, _, rfl⟩ := h
    exact ⟨_, hs.eff _ _ _ _ _ _ hr hc⟩
  · rename_i v' c' hr
    simp only [Option.some.injEq, Prod.mk.injEq] at h
    obtain ⟨rfl, _, rfl⟩ := h
    exact ⟨_, hs.same _ _ _ _ _ hr hc⟩
  · cases h
theorem does40 {K : Int} (h1 : 1 ≤ K) (h2 : K ≤ 1048576) : ∃ H', Does Tryz.prog 40 [.agg cAgg.toArray] (HV K) (.bool true) H' :=
  does_vW (inC_sound hm cW_sound (deepO_sound hm cW_sound bsW_sound 2)) (run40 K) ⟨⟨⟨⟨by rw [decide_eq_true h2], by rw [decide_eq_true h1], trivial⟩, trivial⟩, trivial⟩, trivial⟩
theorem does42 {K : Int} (h1 : 1 ≤ K) (h2 : K ≤ 1048576) : ∃ H', Does Tryz.prog 42 [.agg cAgg.toArray] (HV K) (.bool true) H' :=
  does_vW (inC_sound hm cW_sound (deepO_sound hm cW_sound bsW_sound 3)) (run42 K) ⟨⟨⟨⟨⟨by rw [decide_eq_true h2], by rw [decide_eq_true h1], trivial⟩, trivial⟩, trivial⟩, trivial⟩, trivial⟩
end Go.Abs

