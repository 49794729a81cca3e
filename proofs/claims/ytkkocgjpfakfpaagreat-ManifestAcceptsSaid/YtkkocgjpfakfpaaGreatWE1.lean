/- For every manifest, seed and index the statements ManifestSigns and ManifestAccepts of law 40 hold, with no condition. -/
import Derived.Test.YtkkocgjpfakfpaaGreatWCg
set_option linter.unusedSimpArgs false
set_option linter.unusedVariables false
namespace Go.Abs
open Go.Proofs
set_option maxRecDepth 1000000

/-- Digests by a table. -/
def findT : List (Int × List Int × List Int) → Int → List Int → Option (List Int)
  | [], _, _ => none
  | (d', b', r) :: t, d, b => bif decide (d' = d) && decide (b' = b) then some r else findT t d b
theorem findT_eq {tab : List (Int × List Int × List Int)} (ht : ∀ x ∈ tab, sumS x.1 x.2.1 = x.2.2) {d : Int} {b r : List Int} (h : findT tab d b = some r) : sumS d b = r := by
  induction tab with
  | nil => cases h
  | cons x t ih =>
    obtain ⟨d', b', r'⟩ := x
    simp only [findT] at h
    cases hc : (decide (d' = d) && decide (b' = b)) with
    | true =>
      rw [hc] at h
      simp only [Bool.and_eq_true, decide_eq_true_eq] at hc
      obtain ⟨rfl, rfl⟩ := hc
      cases h
      exact ht _ (List.mem_cons_self ..)
    | false =>
      rw [hc] at h
      exact ih (fun y hy => ht y (List.mem_cons_of_mem _ hy)) h
def memoO (tab : List (Int × List Int × List Int)) : CallF := fun f args H => match args with
  | [.int .u64 d, .slice (some ⟨id, off, none⟩) n _] => bif Nat.beq f 31 || Nat.beq f 33 then (match H.row id with
    | some cs => bif Nat.ble (off + n) cs.length && Nat.ble n 1000000 then (match u8s ((cs.drop off).take n) with
      | some bs => (match findT tab d bs with
        | some r => some (dig r, none)
        | none => none)
      | none => none) else none
    | none => none) else none
  | _ => none
theorem memoO_sum {tab : List (Int × List Int × List Int)} (ht : ∀ x ∈ tab, sumS x.1 x.2.1 = x.2.2) {f : FuncId} {args : List Value} {H : Heap} {v : Value} {h : Option Heap} (hr : memoO tab f args H = some (v, h)) : sumO f args H = some (v, h) := by
  unfold memoO at hr
  unfold sumO
  split at hr
  case h_2 => cases hr
  rename_i d id off n c
  obtain ⟨hf, hx⟩ := cond_opt hr
  clear hr
  simp only [hf, cond_true]
  split at hx
  case h_2 => cases hx
  rename_i cs hrow
  simp only [hrow]
  obtain ⟨hb, hx⟩ := cond_opt hx
  simp only [hb, cond_true]
  split at hx
  case h_2 => cases hx
  rename_i bs hbs
  simp only [hbs]
  split at hx
  case h_2 => cases hx
  rename_i r hfi
  cases hx
  rw [findT_eq ht hfi]
theorem memoO_sound {tab : List (Int × List Int × List Int)} (ht : ∀ x ∈ tab, sumS x.1 x.2.1 = x.2.2) : ∀ f args H v h, memoO tab f args H = some (v, h) → Does Tryz.prog f args H v (h.getD H) :=
  fun f args H v h hr => sumO_sound f args H v h (memoO_sum ht hr)

def tab9 : List (Int × List Int × List Int) := [
  (273, [1, 0, 0, 0, 0, 0, 0, 0, 0, 0, 0, 0, 0, 0, 0, 0, 0, 0, 0, 0, 0, 0, 0, 0, 0, 0, 0, 0, 0, 0, 0, 0], [195, 48, 100, 200, 120, 235, 61, 53, 155, 117, 248, 145, 83, 39, 97, 53, 166, 246, 85, 233, 228, 184, 179, 180, 159, 12, 86, 24, 95, 13, 73, 11]),
  (274, [1, 0, 0, 0, 0, 0, 0, 0, 0, 0, 0, 0, 0, 0, 0, 0, 0, 0, 0, 0, 0, 0, 0, 0, 0, 0, 0, 0, 0, 0, 0, 0], [99, 24, 45, 211, 245, 127, 232, 137, 67, 13, 6, 201, 200, 126, 218, 52, 206, 189, 141, 141, 13, 73, 102, 204, 33, 5, 87, 204, 88, 113, 161, 241]),
  (401, [0, 0, 0, 0, 0], [234, 190, 136, 233, 13, 149, 253, 205, 254, 10, 154, 43, 165, 113, 13, 152, 94, 162, 249, 109, 64, 191, 19, 196, 174, 103, 251, 72, 87, 140, 86, 27])]
theorem tab9a : sumS 273 [1, 0, 0, 0, 0, 0, 0, 0, 0, 0, 0, 0, 0, 0, 0, 0, 0, 0, 0, 0, 0, 0, 0, 0, 0, 0, 0, 0, 0, 0, 0, 0] = [195, 48, 100, 200, 120, 235, 61, 53, 155, 117, 248, 145, 83, 39, 97, 53, 166, 246, 85, 233, 228, 184, 179, 180, 159, 12, 86, 24, 95, 13, 73, 11] := by kernel_rfl
theorem tab9b : sumS 274 [1, 0, 0, 0, 0, 0, 0, 0, 0, 0, 0, 0, 0, 0, 0, 0, 0, 0, 0, 0, 0, 0, 0, 0, 0, 0, 0, 0, 0, 0, 0, 0] = [99, 24, 45, 211, 245, 127, 232, 137, 67, 13, 6, 201, 200, 126, 218, 52, 206, 189, 141, 141, 13, 73, 102, 204, 33, 5, 87, 204, 88, 113, 161, 241] := by kernel_rfl
theorem tab9c : sumS 401 [0, 0, 0, 0, 0] = [234, 190, 136, 233, 13, 149, 253, 205, 254, 10, 154, 43, 165, 113, 13, 152, 94, 162, 249, 109, 64, 191, 19, 196, 174, 103, 251, 72, 87, 140, 86, 27] := by kernel_rfl
theorem tab9_ok : ∀ x ∈ tab9, sumS x.1 x.2.1 = x.2.2 := by
  intro x hx
  simp only [tab9, List.mem_cons, List.not_mem_nil, or_false] at hx
  rcases hx with rfl | rfl | rfl
  · exact tab9a
  · exact tab9b
  · exact tab9c
end Go.Abs

