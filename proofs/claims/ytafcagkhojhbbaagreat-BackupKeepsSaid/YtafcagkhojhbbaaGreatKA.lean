/- BackupKeeps of law 31: Keep and Expire of the program return the lists of the specification, for all days, numbers of days and today; no condition. -/
import Derived.Test.YtafcagkhojhbbaaGreatKBb
import Derived.Test.YtafcagkhojhbbaaGreatProg
set_option linter.unusedSimpArgs false
set_option linter.unusedVariables false
namespace Go.Abs
open Go.Proofs

theorem hm : Tryz.prog.follows .mixedOrders = true := by kernel_rfl

def noO : CallF := fun _ _ _ => none
theorem noO_sound : ∀ f args H v h, noO f args H = some (v, h) → Does Tryz.prog f args H v (h.getD H) := fun _ _ _ _ _ h => nomatch h

theorem closed_of_run {O : CallF} (hO : ∀ f args H v h, O f args H = some (v, h) → Does Tryz.prog f args H v (h.getD H)) {n : Nat} {f : FuncId} {args : List Value} {v : Value} (h : (runF Tryz.prog O n f args ⟨0, []⟩).map (·.1) = some v)
    (ha : args.all c2 = true) (hv : c2 v = true) (H : Heap) : Does Tryz.prog f args H v H := by
  cases hr : runF Tryz.prog O n f args ⟨0, []⟩ with
  | none => rw [hr] at h; cases h
  | some r =>
    obtain ⟨u, h'⟩ := r
    rw [hr] at h
    simp only [Option.map_some, Option.some.injEq] at h
    subst h
    exact (runF_sound hm hO hr).closed ha hv H

set_option maxRecDepth 100000


def rotL (x : Int) (n : Nat) : Int := o64 (IntKind.u64.wrap (x * 2 ^ (64 - n))) (x.fdiv (2 ^ n))
theorem rotL_eq (x : Int) (n : Nat) : rotL x n = rot x n := by unfold rotL rot o64; rw [BitVec.or_comm]
def mixL (x : Int) (n m : Nat) : Int := x64 (x64 x (rotL x n)) (rotL x m)
theorem mixL_eq (x : Int) (n m : Nat) : mixL x n m = mix x n m := by unfold mixL mix; rw [rotL_eq, rotL_eq]

theorem run177_19 (a : Int) : (runF Tryz.prog noO 100 177 [.int .u64 a, .int .i64 19, .int .i64 28] ⟨0, []⟩).map (·.1) = some (.int .u64 (mixL a 19 28)) := by kernel_rfl
theorem run177_61 (a : Int) : (runF Tryz.prog noO 100 177 [.int .u64 a, .int .i64 61, .int .i64 39] ⟨0, []⟩).map (·.1) = some (.int .u64 (mixL a 61 39)) := by kernel_rfl
theorem run177_1 (a : Int) : (runF Tryz.prog noO 100 177 [.int .u64 a, .int .i64 1, .int .i64 6] ⟨0, []⟩).map (·.1) = some (.int .u64 (mixL a 1 6)) := by kernel_rfl
theorem run177_10 (a : Int) : (runF Tryz.prog noO 100 177 [.int .u64 a, .int .i64 10, .int .i64 17] ⟨0, []⟩).map (·.1) = some (.int .u64 (mixL a 10 17)) := by kernel_rfl
theorem run177_7 (a : Int) : (runF Tryz.prog noO 100 177 [.int .u64 a, .int .i64 7, .int .i64 41] ⟨0, []⟩).map (·.1) = some (.int .u64 (mixL a 7 41)) := by kernel_rfl

def mixN : Nat → Nat → Bool
  | 19, 28 => true
  | 61, 39 => true
  | 1, 6 => true
  | 10, 17 => true
  | 7, 41 => true
  | _, _ => false

def rotO : CallF := fun f args _ => match args with
  | [.int .u64 a, .int .i64 (.ofNat n), .int .i64 (.ofNat m)] => bif Nat.beq f 177 && mixN n m then some (.int .u64 (mix a n m), none) else none
  | _ => none

theorem rotO_sound : ∀ f args H v h, rotO f args H = some (v, h) → Does Tryz.prog f args H v (h.getD H) := by
  intro f args H v h hr
  unfold rotO at hr
  split at hr
  · rename_i a n m
    obtain ⟨hb, hx⟩ := cond_some hr
    clear hr
    simp only [Bool.and_eq_true] at hb
    obtain ⟨hf, hb⟩ := hb
    have hf := beqN hf
    subst hf
    cases hx
    unfold mixN at hb
    split at hb
    · rw [← mixL_eq]; exact closed_of_run noO_sound (run177_19 a) rfl rfl H
    · rw [← mixL_eq]; exact closed_of_run noO_sound (run177_61 a) rfl rfl H
    · rw [← mixL_eq]; exact closed_of_run noO_sound (run177_1 a) rfl rfl H
    · rw [← mixL_eq]; exact closed_of_run noO_sound (run177_10 a) rfl rfl H
    · rw [← mixL_eq]; exact closed_of_run noO_sound (run177_7 a) rfl rfl H
    · cases hb
  · cases hr
set_option maxRecDepth 100000
theorem run122 (s : S5) : (runF Tryz.prog rotO 100 122 [s.arr] ⟨0, []⟩).map (·.1) = some (perm s).arr := by kernel_rfl
theorem does122 (s : S5) (H : Heap) : Does Tryz.prog 122 [s.arr] H (perm s).arr H := closed_of_run rotO_sound (run122 s) (by simp [S5.c2]) (S5.c2 _) H
def permO : CallF := fun f args _ => match args with
  | [.agg vs] => match vs.toList with
    | [.int .u64 a, .int .u64 b, .int .u64 c, .int .u64 d, .int .u64 e] => bif Nat.beq f 122 then some ((perm ⟨a, b, c, d, e⟩).arr, none) else none
    | _ => none
  | _ => none
theorem permO_sound : ∀ f args H v h, permO f args H = some (v, h) → Does Tryz.prog f args H v (h.getD H) := by
  intro f args H v h hr
  unfold permO at hr
  split at hr
  case h_2 => cases hr
  rename_i vs
  split at hr
  case h_2 => cases hr
  rename_i a b c d e hvs
  obtain ⟨hb, hx⟩ := cond_some hr
  clear hr
  cases hx
  have hv : vs = #[.int .u64 a, .int .u64 b, .int .u64 c, .int .u64 d, .int .u64 e] := by rw [← Array.toArray_toList (xs := vs), hvs]
  subst hv
  have := beqN hb
  subst this
  exact does122 ⟨a, b, c, d, e⟩ H
end Go.Abs

