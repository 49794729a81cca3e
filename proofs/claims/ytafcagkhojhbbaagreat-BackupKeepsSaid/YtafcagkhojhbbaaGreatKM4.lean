/- BackupKeeps of law 31: Keep and Expire of the program return the lists of the specification, for all days, numbers of days and today; no condition. -/
import Derived.Test.YtafcagkhojhbbaaGreatKM3a
import Derived.Test.YtafcagkhojhbbaaGreatKM3b
import Derived.Test.YtafcagkhojhbbaaGreatKM3c
set_option linter.unusedSimpArgs false
set_option linter.unusedVariables false
namespace Go.Abs
open Go.Proofs
set_option maxRecDepth 1000000
theorem roundK {Q : APost} {ds : List Value} (hds : ∀ v ∈ ds, c2 v = true) {n : Nat} {k t K d i : Int} (hC : CC K) (hD : DayC ds n d i) : ∀ (l : List Sn) (p : Option Sn), l.length ≤ 8 → (∀ s, p = some s → l.length = 8) →
    (∀ l' p', l'.length ≤ 8 → (∀ s, p' = some s → l'.length = 8) → ∀ T H D, Nrm Tryz.prog 6 T H D (T3 n k t (stA l') (stB p' l') (IntKind.i64.wrap (i + 1))) (H3 (.ro ds) K 8 (stH p' l')) [] → Q .normal T H D) →
    Awn Tryz.prog 6 bodyC Q (T3 n k t (stA l) (stB p l) i) (H3 (.ro ds) K 8 (stH p l)) []
  | [], none, _, _, hQ => rn0_0_0 hds hC hD (hQ _ _ (Nat.le_of_ble_eq_true rfl) (fun s h => nomatch h))
  | [], some s, _, hp, _ => nomatch hp s rfl
  | [⟨d1, q1⟩], none, _, _, hQ => by
    cases hlt : decide (d < d1) with
    | false => exact rn1_0_0 hds hC hD hlt (hQ _ _ (Nat.le_of_ble_eq_true rfl) (fun s h => nomatch h))
    | true => exact rn1_0_1 hds hC hD hlt (hQ _ _ (Nat.le_of_ble_eq_true rfl) (fun s h => nomatch h))
  | [_], some s, _, hp, _ => nomatch hp s rfl
  | [⟨d1, q1⟩, ⟨d2, q2⟩], none, _, _, hQ => by
    cases hlt : decide (d < d2) with
    | false => exact rn2_0_0 hds hC hD hlt (hQ _ _ (Nat.le_of_ble_eq_true rfl) (fun s h => nomatch h))
    | true => exact rn2_0_1 hds hC hD hlt (hQ _ _ (Nat.le_of_ble_eq_true rfl) (fun s h => nomatch h))
  | [_, _], some s, _, hp, _ => nomatch hp s rfl
  | [⟨d1, q1⟩, ⟨d2, q2⟩, ⟨d3, q3⟩], none, _, _, hQ => by
    cases hlt : decide (d < d3) with
    | false => exact rn3_0_0 hds hC hD hlt (hQ _ _ (Nat.le_of_ble_eq_true rfl) (fun s h => nomatch h))
    | true => exact rn3_0_1 hds hC hD hlt (hQ _ _ (Nat.le_of_ble_eq_true rfl) (fun s h => nomatch h))
  | [_, _, _], some s, _, hp, _ => nomatch hp s rfl
  | [⟨d1, q1⟩, ⟨d2, q2⟩, ⟨d3, q3⟩, ⟨d4, q4⟩], none, _, _, hQ => by
    cases hlt : decide (d < d4) with
    | false => exact rn4_0_0 hds hC hD hlt (hQ _ _ (Nat.le_of_ble_eq_true rfl) (fun s h => nomatch h))
    | true => exact rn4_0_1 hds hC hD hlt (hQ _ _ (Nat.le_of_ble_eq_true rfl) (fun s h => nomatch h))
  | [_, _, _, _], some s, _, hp, _ => nomatch hp s rfl
  | [⟨d1, q1⟩, ⟨d2, q2⟩, ⟨d3, q3⟩, ⟨d4, q4⟩, ⟨d5, q5⟩], none, _, _, hQ => by
    cases hlt : decide (d < d5) with
    | false => exact rn5_0_0 hds hC hD hlt (hQ _ _ (Nat.le_of_ble_eq_true rfl) (fun s h => nomatch h))
    | true => exact rn5_0_1 hds hC hD hlt (hQ _ _ (Nat.le_of_ble_eq_true rfl) (fun s h => nomatch h))
  | [_, _, _, _, _], some s, _, hp, _ => nomatch hp s rfl
  | [⟨d1, q1⟩, ⟨d2, q2⟩, ⟨d3, q3⟩, ⟨d4, q4⟩, ⟨d5, q5⟩, ⟨d6, q6⟩], none, _, _, hQ => by
    cases hlt : decide (d < d6) with
    | false => exact rn6_0_0 hds hC hD hlt (hQ _ _ (Nat.le_of_ble_eq_true rfl) (fun s h => nomatch h))
    | true => exact rn6_0_1 hds hC hD hlt (hQ _ _ (Nat.le_of_ble_eq_true rfl) (fun s h => nomatch h))
  | [_, _, _, _, _, _], some s, _, hp, _ => nomatch hp s rfl
  | [⟨d1, q1⟩, ⟨d2, q2⟩, ⟨d3, q3⟩, ⟨d4, q4⟩, ⟨d5, q5⟩, ⟨d6, q6⟩, ⟨d7, q7⟩], none, _, _, hQ => by
    cases hlt : decide (d < d7) with
    | false => exact rn7_0_0 hds hC hD hlt (hQ _ _ (Nat.le_of_ble_eq_true rfl) (fun s h => nomatch h))
    | true => exact rn7_0_1 hds hC hD hlt (hQ _ _ (Nat.le_of_ble_eq_true rfl) (fun s h => nomatch h))
  | [_, _, _, _, _, _, _], some s, _, hp, _ => nomatch hp s rfl
  | [⟨d1, q1⟩, ⟨d2, q2⟩, ⟨d3, q3⟩, ⟨d4, q4⟩, ⟨d5, q5⟩, ⟨d6, q6⟩, ⟨d7, q7⟩, ⟨d8, q8⟩], none, _, _, hQ => by
    cases hlt : decide (d < d8) with
    | false => exact rn8_0_0 hds hC hD hlt (hQ _ _ (Nat.le_of_ble_eq_true rfl) (fun s h => rfl))
    | true => exact rn8_0_1 hds hC hD hlt (hQ _ _ (Nat.le_of_ble_eq_true rfl) (fun s h => nomatch h))
  | [⟨d1, q1⟩, ⟨d2, q2⟩, ⟨d3, q3⟩, ⟨d4, q4⟩, ⟨d5, q5⟩, ⟨d6, q6⟩, ⟨d7, q7⟩, ⟨d8, q8⟩], some ⟨d0, q0⟩, _, _, hQ => by
    cases hlt : decide (d < d8) with
    | false => exact rn8_1_0 hds hC hD hlt (hQ _ _ (Nat.le_of_ble_eq_true rfl) (fun s h => rfl))
    | true => exact rn8_1_1 hds hC hD hlt (hQ _ _ (Nat.le_of_ble_eq_true rfl) (fun s h => rfl))
  | _ :: _ :: _ :: _ :: _ :: _ :: _ :: _ :: _ :: _, _, h, _, _ => by simp at h
end Go.Abs

