/- For every manifest, seed and index the statements ManifestSigns and ManifestAccepts of law 40 hold, with no condition. -/
import Derived.Test.YtkkocgjpfakfpaaGreatWC3
import Derived.Test.YtkkocgjpfakfpaaGreatWC2
set_option linter.unusedSimpArgs false
set_option linter.unusedVariables false
namespace Go.Abs
open Go.Proofs
set_option maxRecDepth 100000

theorem r127_0a (s : S5) : (ex Tryz.prog rotO 60 (codeOf Tryz.f127 [0]) ⟨[s.arr] ++ List.replicate 120 undef, ⟨0, []⟩, []⟩).map (obs [1, 2] [0, 1]) = some ⟨0, [pt 0, pt 1], 121, 2, [s.obj, S5.zero.obj], []⟩ := by kernel_rfl
theorem r127b (s : S5) (X : Nat → Value) (l : List (Nat × AObj)) : (ex Tryz.prog rotO 60 (codeOf Tryz.f127 [1,0,0]) ⟨mkT 121 [(1, pt 0), (2, pt 1)] X, mkH 2 [(0, s.obj), (1, S5.zero.obj)] l, []⟩).map (obs [1, 2, 3] [0, 1]) = some ⟨0, [pt 0, pt 1, .int .i64 0], 121, 2, [s.obj, S5.zero.obj], []⟩ := by kernel_rfl
theorem r127c (s : S5) (X : Nat → Value) (l : List (Nat × AObj)) : (ex Tryz.prog rotO 60 (codeOf Tryz.f127 [1,1]) ⟨mkT 121 [(1, pt 0), (2, pt 1), (3, .int .i64 12)] X, mkH 38 [(0, s.obj), (1, S5.zero.obj)] l, []⟩).map (fin Tryz.prog Tryz.f127 []) = some ⟨1, some s.arr, 38, [], []⟩ := by kernel_rfl

theorem r127 (s : S5) : ∀ r : Nat, r < 12 → ∀ (X : Nat → Value) (l : List (Nat × AObj)), (ex Tryz.prog rotO 60 (codeOf Tryz.f127 [1,0,1,0,0]) ⟨mkT 121 [(1, pt 0), (2, pt 1), (3, .int .i64 (r : Nat))] X, mkH (2 + 3 * r) [(0, s.obj), (1, S5.zero.obj)] l, []⟩).map (obs [1, 2, 3] [0, 1]) = some ⟨0, [pt 0, pt 1, .int .i64 (r + 1 : Nat)], 121, 2 + 3 * (r + 1), [(rnd (r : Nat) s).obj, S5.zero.obj], []⟩
  | 0, _ => r127_0 s | 1, _ => r127_1 s | 2, _ => r127_2 s | 3, _ => r127_3 s | 4, _ => r127_4 s | 5, _ => r127_5 s
  | 6, _ => r127_6 s | 7, _ => r127_7 s | 8, _ => r127_8 s | 9, _ => r127_9 s | 10, _ => r127_10 s | 11, _ => r127_11 s
  | n + 12, h => absurd h (by omega)

theorem does127 (s : S5) (H : Heap) : Does Tryz.prog 127 [s.arr] H (perm s).arr H := by
  refine Does.closed (H' := ⟨0, []⟩) ?_ (by simp [S5.c2]) (S5.c2 _) H
  refine val_of_awp Tryz.func127 (c := codeOf Tryz.f127 []) rfl (S5.c2 _) ?_
  refine awp_seq (x := codeOf Tryz.f127 [0]) (y := codeOf Tryz.f127 [1]) (piece hm rotO_sound (r127_0a s) ?_)
  intro e X H1 he hn hg
  cases tag0 he
  refine awp_seq (x := codeOf Tryz.f127 [1, 0]) (y := codeOf Tryz.f127 [1, 1]) (awp_seq (x := codeOf Tryz.f127 [1, 0, 0]) (y := codeOf Tryz.f127 [1, 0, 1]) (pieceH hm rotO_sound _ _ hn hg (r127b s X) ?_))
  intro e X H1 he hn hg
  cases tag0 he
  refine awp_block (c := codeOf Tryz.f127 [1, 0, 1, 0]) (awp_loop (c := codeOf Tryz.f127 [1, 0, 1, 0, 0]) (fun m T H D => ∃ r, m + r = 12 ∧ ∃ X, T = mkT 121 [(1, pt 0), (2, pt 1), (3, .int .i64 (r : Nat))] X ∧ H.next = 2 + 3 * r ∧ (∀ p ∈ [(0, (itr s r).obj), (1, S5.zero.obj)], H.get p.1 = p.2) ∧ D = []) 12 ⟨0, rfl, X, rfl, hn, hg, rfl⟩ ?_)
  rintro m T H D ⟨r, hr, X, rfl, hn, hg, rfl⟩
  rcases Nat.lt_or_ge r 12 with hlt | hge
  · refine pieceH hm rotO_sound _ _ hn hg (r127 (itr s r) r hlt X) ?_
    intro e X H1 he hn hg
    cases tag0 he
    exact ⟨m - 1, by omega, r + 1, by omega, X, rfl, hn, hg, rfl⟩
  · have : r = 12 := by omega
    subst this
    refine pieceH hm rotO_sound _ _ hn hg (r127_12 (itr s 12) X) ?_
    intro e X H1 he hn hg
    cases tag2 he
    refine pieceR hm rotO_sound _ _ hn hg (r127c (itr s 12) X) ?_
    intro e T H1 he hr hn hg
    cases tag1 he
    exact ⟨.inr rfl, rfl, (itr s 12).arr, hr, rfl, ⟨Nat.zero_le _, fun id h => absurd h (Nat.not_lt_zero _)⟩⟩
end Go.Abs

namespace Go.Abs
open Go.Proofs

def permO : CallF := fun f args _ => match args with
  | [.agg vs] => match vs.toList with
    | [.int .u64 a, .int .u64 b, .int .u64 c, .int .u64 d, .int .u64 e] => bif Nat.beq f 125 || Nat.beq f 127 then some ((perm ⟨a, b, c, d, e⟩).arr, none) else none
    | _ => none
  | _ => none

theorem permO_sound : ∀ f args H v h, permO f args H = some (v, h) → Does Tryz.prog f args H v (h.getD H) := by
  intro f args H v h hr
  unfold permO at hr
  split at hr
  case h_2 => cases hr
  rename_i vs
  split at hr
  case h_2 => cases hr
  rename_i a b c d e hvs
  obtain ⟨hb, hx⟩ := cond_some hr
  clear hr
  cases hx
  have hv : vs = #[.int .u64 a, .int .u64 b, .int .u64 c, .int .u64 d, .int .u64 e] := by rw [← Array.toArray_toList (xs := vs), hvs]
  subst hv
  simp only [Bool.or_eq_true] at hb
  rcases hb with hb | hb
  · have := beqN hb; subst this; exact does125 ⟨a, b, c, d, e⟩ H
  · have := beqN hb; subst this; exact does127 ⟨a, b, c, d, e⟩ H
end Go.Abs

