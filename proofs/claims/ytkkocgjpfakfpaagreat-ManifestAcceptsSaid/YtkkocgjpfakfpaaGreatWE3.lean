/- For every manifest, seed and index the statements ManifestSigns and ManifestAccepts of law 40 hold, with no condition. -/
import Derived.Test.YtkkocgjpfakfpaaGreatWE1
set_option linter.unusedSimpArgs false
set_option linter.unusedVariables false
namespace Go.Abs
open Go.Proofs
set_option maxRecDepth 1000000

def sB (l : List UInt8) : Value := .string ⟨l.toArray⟩
def nil' : Value := .slice none 0 0
def cCols : List Value := [sB [97], .int .i64 1, sB [], sB [], nil', .int .i64 0, .int .i64 0]
def cTabs : List Value := [sB [116], .slice (some ⟨0, 0, none⟩) 1 capG, .int .i64 0, .int .i64 0]
def cAgg : List Value := [.slice (some ⟨1, 0, none⟩) 1 capG, nil', nil', nil', nil', nil', nil', nil']
def H9 : Heap := ⟨2, [(0, .ro cCols), (1, .ro cTabs)]⟩
theorem run65 : (runF Tryz.prog (memoO tab9) 100000 65 [.agg cAgg.toArray] H9).map (·.1) = some (.bool true) := by kernel_rfl
theorem run103 : (runF Tryz.prog (memoO tab9) 100000 103 [.agg cAgg.toArray] H9).map (·.1) = some (.bool true) := by kernel_rfl

/-- A value is this closed one. -/
def isV : Value → Value → Bool
  | .string s, .string s' => decide (s.data.toList = s'.data.toList)
  | .int .i64 n, .int .i64 n' => decide (n = n')
  | .slice none 0 0, .slice none 0 0 => true
  | _, _ => false
theorem isV_eq {v v' : Value} (h : isV v v' = true) : v = v' := by
  unfold isV at h
  split at h
  · rename_i s s'
    have := of_decide_eq_true h
    obtain ⟨⟨l⟩⟩ := s
    obtain ⟨⟨l'⟩⟩ := s'
    simp at this
    subst this
    rfl
  · rw [of_decide_eq_true h]
  · rfl
  · cases h
def areV : List Value → List Value → Bool
  | [], [] => true
  | v :: l, v' :: l' => isV v v' && areV l l'
  | _, _ => false
theorem areV_eq : ∀ {l l' : List Value}, areV l l' = true → l = l'
  | [], [], _ => rfl
  | v :: l, v' :: l', h => by
    simp only [areV, Bool.and_eq_true] at h
    rw [isV_eq h.1, areV_eq h.2]
  | [], _ :: _, h => by simp [areV] at h
  | _ :: _, [], h => by simp [areV] at h

def rest7 : List Value := [nil', nil', nil', nil', nil', nil', nil']
/-- The catalogue of awake, wherever it lies. -/
def isCat (args : List Value) (H : Heap) : Bool := match args with
  | [.agg ⟨.slice (some ⟨t, 0, none⟩) 1 _ :: rest⟩] => areV rest rest7 && (match H.row t with
    | some (x :: .slice (some ⟨k, 0, none⟩) 1 _ :: r) => isV x (sB [116]) && areV r [.int .i64 0, .int .i64 0] && (match H.row k with
      | some cs => areV cs cCols
      | none => false)
    | _ => false)
  | _ => false
theorem isCat_imp {args : List Value} {H : Heap} (h : isCat args H = true) : Imp Tryz.prog args H [.agg cAgg.toArray] H9 := by
  unfold isCat at h
  split at h
  case h_2 => cases h
  rename_i t c rest
  simp only [Bool.and_eq_true] at h
  obtain ⟨hr, h⟩ := h
  have hr := areV_eq hr
  subst hr
  split at h
  case h_2 => cases h
  rename_i x k c' r hrow
  simp only [Bool.and_eq_true] at h
  obtain ⟨⟨hx, hr⟩, h⟩ := h
  have hx := isV_eq hx
  have hr := areV_eq hr
  subst hx
  subst hr
  split at h
  case h_2 => cases h
  rename_i cs hrow2
  have h := areV_eq h
  subst h
  refine imp_gen (fun j => if j = 0 then some (k, 0, c') else if j = 1 then some (t, 0, c) else none) ?_ ?_ ?_
  · intro j x hj
    by_cases h0 : j = 0
    · omega
    · by_cases h1 : j = 1
      · omega
      · simp [h0, h1] at hj
  · exact .cons (RI.agg (l := .slice (some ⟨t, 0, none⟩) 1 c :: rest7) (m := cAgg) (.cons (RI.slice rfl) (RI.all (l := rest7) (by intro v hv; simp [rest7] at hv; subst hv; rfl)))) .nil
  · intro p hp
    simp only [List.mem_cons, List.not_mem_nil, or_false] at hp
    rcases hp with rfl | rfl
    · exact .inr ⟨k, 0, c', cCols, cCols, cCols, rfl, hrow2, rfl, rfl, RI.all (by intro v hv; simp [cCols] at hv; rcases hv with rfl | rfl | rfl | rfl | rfl | rfl | rfl <;> rfl), Nat.le_refl _⟩
    · exact .inr ⟨t, 0, c, _, cTabs, _, rfl, hrow, rfl, rfl, .cons (.closed rfl) (.cons (RI.slice rfl) (.cons (.closed rfl) (.cons (.closed rfl) .nil))), Nat.le_refl _⟩
def catO : CallF := fun f args H => bif (Nat.beq f 65 || Nat.beq f 103) && isCat args H then some (.bool true, none) else none
theorem catO_sound : ∀ f args H v h, catO f args H = some (v, h) → Does Tryz.prog f args H v (h.getD H) := by
  intro f args H v h hr
  obtain ⟨hf, hx⟩ := cond_opt hr
  cases hx
  simp only [Bool.and_eq_true, Bool.or_eq_true] at hf
  obtain ⟨hf, hc⟩ := hf
  have key : ∀ k, (runF Tryz.prog (memoO tab9) 100000 k [.agg cAgg.toArray] H9).map (·.1) = some (.bool true) → Does Tryz.prog k args H (.bool true) H := fun k hk => by
    cases hr : runF Tryz.prog (memoO tab9) 100000 k [.agg cAgg.toArray] H9 with
    | none => rw [hr] at hk; cases hk
    | some r =>
      obtain ⟨u, h'⟩ := r
      rw [hr] at hk
      simp only [Option.map_some, Option.some.injEq] at hk
      subst hk
      exact frame_val (runF_sound hm (memoO_sound tab9_ok) hr) rfl (isCat_imp hc)
  rcases hf with hf | hf
  · have := beqN hf; subst this; exact key 65 run65
  · have := beqN hf; subst this; exact key 103 run103
end Go.Abs

