/- BackupKeeps of law 31: Keep and Expire of the program return the lists of the specification, for all days, numbers of days and today; no condition. -/
import Derived.Test.YtafcagkhojhbbaaGreatKM1
set_option linter.unusedSimpArgs false
set_option linter.unusedVariables false
namespace Go.Abs
open Go.Proofs
set_option maxRecDepth 1000000

def pc : Option Sn → List Value
  | none => []
  | some s => s.b
def stA : List Sn → Value
  | [] => nilS
  | s :: l => slc 6 0 (s :: l).length capG
def stB (p : Option Sn) : List Sn → Value
  | [] => nilS
  | s :: l => match p with
    | none => slc 7 0 (s :: l).length capG
    | some _ => slc 7 4 (s :: l).length (capG + 1)
def stH (p : Option Sn) : List Sn → List (Nat × AObj)
  | [] => []
  | s :: l => [(6, .grow ((s :: l).flatMap Sn.a) 46), (7, .grow (pc p ++ (s :: l).flatMap Sn.b) 46)]
def nxL (l : List Sn) (s : Sn) : List Sn := match l with
  | [] => [s]
  | x :: r => bif Nat.blt r.length 7 then x :: r ++ [s] else r ++ [s]
def nxP (l : List Sn) : Option Sn := match l with
  | [] => none
  | x :: r => bif Nat.blt r.length 7 then none else some x
theorem rv_a {σ : Nat → Option Nat} : ∀ l : List Sn, F2 (RV σ) (l.flatMap Sn.a) (l.flatMap Sn.a)
  | [] => .nil
  | s :: l => .cons (.closed rfl) (.cons (.closed rfl) (.cons (.closed rfl) (.cons .anon (rv_a l))))
theorem rv_b {σ : Nat → Option Nat} : ∀ l : List Sn, F2 (RV σ) (l.flatMap Sn.b) (l.flatMap Sn.b)
  | [] => .nil
  | s :: l => .cons (.closed rfl) (.cons (.closed rfl) (.cons (.closed rfl) (.cons (.closed rfl) (rv_b l))))
theorem F2.app {α β : Type} {R : α → β → Prop} : ∀ {a : List α} {b : List β} {c : List α} {d : List β}, F2 R a b → F2 R c d → F2 R (a ++ c) (b ++ d)
  | _, _, _, _, .nil, h => h
  | _, _, _, _, .cons h t, k => .cons h (F2.app t k)
theorem rv_pb {σ : Nat → Option Nat} (p : Option Sn) (l : List Sn) : F2 (RV σ) (pc p ++ l.flatMap Sn.b) (pc p ++ l.flatMap Sn.b) := by
  refine F2.app ?_ (rv_b l)
  cases p with
  | none => exact .nil
  | some s => exact .cons (.closed rfl) (.cons (.closed rfl) (.cons (.closed rfl) (.cons (.closed rfl) .nil)))
abbrev RS (σ : Nat → Option Nat) (p q : Nat × AObj) : Prop := σ q.1 = some p.1 ∧ RO σ p.2 q.2
theorem cat_rs {σ : Nat → Option Nat} (hσ : ∀ j, j < 6 → σ j = some j) {K : Int} {ds : AObj} (hds : ∀ σ, RO σ ds ds) {a b : List (Nat × AObj)} (h : F2 (RS σ) a b) : F2 (RS σ) ((0, ds) :: (catH K ++ a)) ((0, ds) :: (catH K ++ b)) := by
  refine .cons ⟨hσ 0 (by omega), hds σ⟩ (.cons ⟨hσ 1 (by omega), .cells (RV.all (by intro v hv; simp [cCols] at hv; rcases hv with rfl | rfl | rfl | rfl | rfl | rfl | rfl <;> rfl))⟩ (.cons ⟨hσ 2 (by omega), .cells (.cons (.closed rfl) (.cons (.slice (hσ 1 (by omega))) (.cons (.closed rfl) (.cons (.closed rfl) .nil))))⟩ (.cons ⟨hσ 3 (by omega), .cells (.cons (.closed rfl) .nil)⟩ (.cons ⟨hσ 4 (by omega), .cells (.cons (.closed rfl) (.cons (.slice (hσ 3 (by omega))) (.cons (.closed rfl) .nil)))⟩ (.cons ⟨hσ 5 (by omega), .cells (.cons (.slice (hσ 2 (by omega))) (.cons (.closed rfl) (.cons (.closed rfl) (.cons (.closed rfl) (.cons (.closed rfl) (.cons (.closed rfl) (.cons (.closed rfl) (.cons (.slice (hσ 4 (by omega))) .nil))))))))⟩ h)))))
theorem sg6 {s : List (Nat × Nat)} : ∀ j, j < 6 → sg 6 s j = some j := fun j hj => by
  have : Nat.blt j 6 = true := by simpa [Nat.blt_eq] using hj
  simp [sg, this]
/-- What a round needs of its day. -/
structure DayC (ds : List Value) (n : Nat) (d i : Int) : Prop where
  ld : LdC Tryz.prog 3 (some ds) (0 + i.toNat * 1) (i64 d)
  lo : (0 : Int) ≤ i
  hi : i < (n : Int)
noncomputable abbrev bodyC : Code := codeOf Tryz.f3 [1,1,1,1,0,1,0,0,1]
theorem c2_all {l : List Value} (h : l.all c2 = true) : ∀ v ∈ l, c2 v = true := List.all_eq_true.1 h
end Go.Abs

