/- BackupKeeps of law 31: Keep and Expire of the program return the lists of the specification, for all days, numbers of days and today; no condition. -/
import Derived.Test.YtafcagkhojhbbaaGreatKM7
import Derived.ReadAgain
import Derived.ChangeSame
set_option linter.unusedSimpArgs false
set_option linter.unusedVariables false
namespace Go.Abs
open Go.Proofs
open Go.RowKit (Below)

section
variable {H : Type} {enc : TypeId × Value → H} {P : Program} {w : World} {base : Nat} {sp : Nat → Bool} {held : Bool}

theorem mapM_some {α β : Type} {f : α → Option β} : ∀ {l : List α} {ys : List β}, l.mapM f = some ys → ∀ x ∈ l, ∃ y, f x = some y
  | [], ys, _, x, hx => by cases hx
  | a :: l, ys, h, x, hx => by
    rw [List.mapM_cons] at h
    simp only [bind, Option.bind_eq_some_iff] at h
    obtain ⟨y, hy, ys', hys, _⟩ := h
    rcases List.mem_cons.1 hx with rfl | hx
    · exact ⟨y, hy⟩
    · exact mapM_some hys x hx

theorem inv_int {t : TypeId} {k : IntKind} {fuel : Nat} {cs : List Value} {x : DataW H × List MemPlace} (hu : P.underlying t = some (.int k)) (h : DataW.trod enc P w base sp held fuel t cs = some x) : ∃ n, cs = [.int k n] := by
  cases fuel with
  | zero => simp [DataW.trod] at h
  | succ fuel =>
    unfold DataW.trod at h
    rw [hu] at h
    split at h <;> simp_all
theorem inv_slice {t e : TypeId} {fuel : Nat} {cs : List Value} {x : DataW H × List MemPlace} (hu : P.underlying t = some (.slice e)) (h : DataW.trod enc P w base sp held fuel t cs = some x) :
    cs = [.slice none 0 0] ∨ ∃ a len cap fuel', cs = [.slice (some a) len cap] ∧ len ≤ cap ∧ ∀ i, i < len → ∃ ecs y, w.cells? base (a.add (i * P.cellsOf e)) (P.cellsOf e) = some ecs ∧ DataW.trod enc P w base sp held fuel' e ecs = some y := by
  cases fuel with
  | zero => simp [DataW.trod] at h
  | succ fuel =>
    unfold DataW.trod at h
    rw [hu] at h
    split at h
    all_goals first | (simp_all; done) | skip
    · rename_i e' a len cap heq
      cases heq
      refine .inr ?_
      split at h
      · rename_i hc
        simp only [Option.bind_eq_some_iff] at h
        obtain ⟨ys, hy, _⟩ := h
        refine ⟨a, len, cap, fuel, rfl, hc.2.1, fun i hi => ?_⟩
        obtain ⟨y, hy⟩ := mapM_some hy i (List.mem_range.2 hi)
        simp only [Option.bind_eq_some_iff] at hy
        obtain ⟨ecs, h1, h2⟩ := hy
        exact ⟨ecs, y, h1, h2⟩
      · cases h
end
end Go.Abs

