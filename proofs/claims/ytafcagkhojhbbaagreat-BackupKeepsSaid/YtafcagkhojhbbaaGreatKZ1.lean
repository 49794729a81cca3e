/- BackupKeeps of law 31: Keep and Expire of the program return the lists of the specification, for all days, numbers of days and today; no condition. -/
import Derived.Test.YtafcagkhojhbbaaGreatKY
import Derived.Test.YtafcagkhojhbbaaGreatKBc
set_option linter.unusedSimpArgs false
set_option linter.unusedVariables false
namespace Go.Abs
open Go.Proofs
set_option maxRecDepth 1000000
/-- Sums by a table. -/
def findT : List (Int × List Int × List Int) → Int → List Int → Option (List Int)
  | [], _, _ => none
  | (d', b', r) :: t, d, b => bif decide (d' = d) && decide (b' = b) then some r else findT t d b
theorem findT_eq {tab : List (Int × List Int × List Int)} (ht : ∀ x ∈ tab, sumS x.1 x.2.1 = x.2.2) {d : Int} {b r : List Int} (h : findT tab d b = some r) : sumS d b = r := by
  induction tab with
  | nil => cases h
  | cons x t ih =>
    obtain ⟨d', b', r'⟩ := x
    simp only [findT] at h
    cases hc : (decide (d' = d) && decide (b' = b)) with
    | true =>
      rw [hc] at h
      simp only [Bool.and_eq_true, decide_eq_true_eq] at hc
      obtain ⟨rfl, rfl⟩ := hc
      cases h
      exact ht _ (List.mem_cons_self ..)
    | false =>
      rw [hc] at h
      exact ih (fun y hy => ht y (List.mem_cons_of_mem _ hy)) h
def memoO (tab : List (Int × List Int × List Int)) : CallF := fun f args H => match args with
  | [.int .u64 d, .slice (some ⟨id, off, none⟩) n _] => bif Nat.beq f 46 then (match H.row id with
    | some cs => bif Nat.ble (off + n) cs.length then (match u8s ((cs.drop off).take n) with
      | some bs => (match findT tab d bs with
        | some r => some (dig r, none)
        | none => none)
      | none => none) else none
    | none => none) else none
  | _ => none
theorem memoO_sum {tab : List (Int × List Int × List Int)} (ht : ∀ x ∈ tab, sumS x.1 x.2.1 = x.2.2) {f : FuncId} {args : List Value} {H : Heap} {v : Value} {h : Option Heap} (hr : memoO tab f args H = some (v, h)) : sumO f args H = some (v, h) := by
  unfold memoO at hr
  unfold sumO
  split at hr
  case h_2 => cases hr
  rename_i d id off n c
  obtain ⟨hf, hx⟩ := cond_opt hr
  clear hr
  simp only [hf, cond_true]
  split at hx
  case h_2 => cases hx
  rename_i cs hrow
  simp only [hrow]
  obtain ⟨hb, hx⟩ := cond_opt hx
  simp only [hb, cond_true]
  split at hx
  case h_2 => cases hx
  rename_i bs hbs
  simp only [hbs]
  split at hx
  case h_2 => cases hx
  rename_i r hfi
  cases hx
  rw [findT_eq ht hfi]
theorem memoO_sound {tab : List (Int × List Int × List Int)} (ht : ∀ x ∈ tab, sumS x.1 x.2.1 = x.2.2) : ∀ f args H v h, memoO tab f args H = some (v, h) → Does Tryz.prog f args H v (h.getD H) :=
  fun f args H v h hr => sumO_sound f args H v h (memoO_sum ht hr)

def one32 : List Int := [1, 0, 0, 0, 0, 0, 0, 0, 0, 0, 0, 0, 0, 0, 0, 0, 0, 0, 0, 0, 0, 0, 0, 0, 0, 0, 0, 0, 0, 0, 0, 0]
def dgA : List Int := [195, 48, 100, 200, 120, 235, 61, 53, 155, 117, 248, 145, 83, 39, 97, 53, 166, 246, 85, 233, 228, 184, 179, 180, 159, 12, 86, 24, 95, 13, 73, 11]
def dgB : List Int := [99, 24, 45, 211, 245, 127, 232, 137, 67, 13, 6, 201, 200, 126, 218, 52, 206, 189, 141, 141, 13, 73, 102, 204, 33, 5, 87, 204, 88, 113, 161, 241]
def dgC : List Int := [152, 185, 199, 102, 96, 28, 90, 78, 127, 5, 83, 239, 163, 74, 17, 136, 252, 181, 91, 207, 165, 63, 184, 15, 224, 7, 138, 70, 201, 190, 149, 245]
def tab4 : List (Int × List Int × List Int) := [(273, one32, dgA), (274, one32, dgB), (280, [16, 2, 8], dgC)]
theorem tab4a : sumS 273 one32 = dgA := by kernel_rfl
theorem tab4b : sumS 274 one32 = dgB := by kernel_rfl
theorem tab4c : sumS 280 [16, 2, 8] = dgC := by kernel_rfl
theorem tab4_ok : ∀ x ∈ tab4, sumS x.1 x.2.1 = x.2.2 := by
  intro x hx
  simp only [tab4, List.mem_cons, List.not_mem_nil, or_false] at hx
  rcases hx with rfl | rfl | rfl
  · exact tab4a
  · exact tab4b
  · exact tab4c
noncomputable def O4 : CallF := orC catO (memoO tab4)
theorem O4_sound : ∀ f args H v h, O4 f args H = some (v, h) → Does Tryz.prog f args H v (h.getD H) := orC_sound catO_sound (memoO_sound tab4_ok)
noncomputable def C4 : CallF := runF Tryz.prog O4 1000
theorem C4_sound : ∀ f args H v h, C4 f args H = some (v, h) → Does Tryz.prog f args H v (h.getD H) := fun _ _ _ _ _ h => runF_sound hm O4_sound h

-- the calls of awake that may come in any order
def vltV : Value := .agg (bytes dgA ++ (bytes dgB ++ [nilS])).toArray
theorem run35 : (runF Tryz.prog O4 1000 35 [vltV, nilS] ⟨0, []⟩).map (·.1) = some vltV := by kernel_rfl
def a34 : List Value := [vltV, nilS, i64 0, i64 8, .agg #[i64 1, i64 4, .string ⟨#[]⟩]]
def sealV (i : Nat) : Value := .agg ([i64 8, nilS, i64 0, nilS, .slice (some ⟨i, 0, none⟩) 2 capG] ++ bytes dgC).toArray
def valV : Value := .agg #[i64 1, i64 4, .string ⟨#[]⟩]
end Go.Abs

