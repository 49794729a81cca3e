/- BackupKeeps of law 31: Keep and Expire of the program return the lists of the specification, for all days, numbers of days and today; no condition. -/
import Derived.Test.YtafcagkhojhbbaaGreatKM2
import Derived.Test.YtafcagkhojhbbaaGreatKBc
set_option linter.unusedSimpArgs false
set_option linter.unusedVariables false
namespace Go.Abs
open Go.Proofs
set_option maxRecDepth 1000000
def inD (d : Int) : Bool := decide (0 ≤ d) && decide (d ≤ 1048576)
noncomputable def oo19 (b1 b2 : Bool) : OpO := orO (forceO Tryz.prog 4 (.bool b1)) (forceO Tryz.prog 7 (.bool b2))
theorem oo19_sound (b1 b2 : Bool) : SoundO Tryz.prog (oo19 b1 b2) := orO_sound forceO_sound forceO_sound
theorem r19f (d : Int) : vW (inC Tryz.prog cR (oo19 false false) 60 [19] 19 [i64 d] ⟨0, []⟩) = some (.bool false, 0, some (Value.bool (decide (d ≥ 0))) = some (Value.bool false) ∧ True) := by kernel_rfl
theorem r19t (d : Int) (b : Bool) : vW (inC Tryz.prog cR (oo19 true b) 60 [19] 19 [i64 d] ⟨0, []⟩) = some (.bool b, 0, some (Value.bool (decide (d ≤ 1048576))) = some (Value.bool b) ∧ some (Value.bool (decide (d ≥ 0))) = some (Value.bool true) ∧ True) := by kernel_rfl
theorem does19 (d : Int) (H : Heap) : Does Tryz.prog 19 [i64 d] H (.bool (inD d)) H := by
  have key : ∀ b, (∃ H', Does Tryz.prog 19 [i64 d] ⟨0, []⟩ (.bool b) H') → Does Tryz.prog 19 [i64 d] H (.bool b) H := fun b ⟨H', h⟩ => frame_val h rfl (imp_closed H rfl)
  by_cases h : 0 ≤ d
  · have e : inD d = decide (d ≤ 1048576) := by simp [inD, h]
    rw [e]
    exact key _ (does_vW (inC_sound hm cR_sound (oo19_sound _ _)) (r19t d _) ⟨rfl, by rw [decide_eq_true (show d ≥ 0 from h)], trivial⟩)
  · have e : inD d = false := by simp [inD, h]
    rw [e]
    exact key _ (does_vW (inC_sound hm cR_sound (oo19_sound _ _)) (r19f d) ⟨by rw [decide_eq_false (show ¬ d ≥ 0 from h)], trivial⟩)
/-- Whether a day is in range, said beforehand. -/
def dyG (b : Bool) : List Value → Heap → Option CallR := fun args H => match args with
  | [.int .i64 d] => some (.same (.bool b) (inD d = b))
  | _ => none
theorem dy19 (b : Bool) : SoundC Tryz.prog (oneC 19 (dyG b)) := oneC_sound fun args H r h => by
  unfold dyG at h
  split at h
  case h_2 => cases h
  rename_i d
  cases h
  intro hb
  rw [← hb]
  exact does19 d H
/-- hasBackup and its like. -/
noncomputable def hb7 (K : Int) : OpO := callO Tryz.prog (inC Tryz.prog cR (callO Tryz.prog (oneC 40 (ctG K))) 60 [15])
theorem hb7_sound (K : Int) : SoundO Tryz.prog (hb7 K) := callO_sound (inC_sound hm cR_sound (callO_sound (ct40 K)))
noncomputable def hb8 (K : Int) : OpO := callO Tryz.prog (inC Tryz.prog cR (callO Tryz.prog (oneC 42 (ctG K))) 60 [17])
theorem hb8_sound (K : Int) : SoundO Tryz.prog (hb8 K) := callO_sound (inC_sound hm cR_sound (callO_sound (ct42 K)))
noncomputable def oo7a (b : Bool) (K : Int) : OpO := orO (callO Tryz.prog (oneC 19 (dyG b))) (hb7 K)
theorem oo7a_sound (b : Bool) (K : Int) : SoundO Tryz.prog (oo7a b K) := orO_sound (callO_sound (dy19 b)) (hb7_sound K)
noncomputable def oo7b (b1 b2 : Bool) (v : Value) : OpO := orO (callO Tryz.prog (oneC 19 (dyG b1))) (orO (forceO Tryz.prog 41 (.bool b2)) (orO (idxO Tryz.prog 25) (orO (ldO Tryz.prog 26 v) (appO Tryz.prog 47))))
theorem oo7b_sound (b1 b2 : Bool) (v : Value) : SoundO Tryz.prog (oo7b b1 b2 v) := orO_sound (callO_sound (dy19 b1)) (orO_sound forceO_sound (orO_sound idxO_sound (orO_sound ldO_sound appO_sound)))
abbrev base (ds : AObj) (K : Int) (l : List (Nat × AObj)) : List (Nat × AObj) := (0, ds) :: (catH K ++ l)
end Go.Abs

