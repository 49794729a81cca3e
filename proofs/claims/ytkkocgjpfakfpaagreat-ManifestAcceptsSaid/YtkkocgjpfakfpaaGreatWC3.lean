/- For every manifest, seed and index the statements ManifestSigns and ManifestAccepts of law 40 hold, with no condition. -/
import Derived.Test.YtkkocgjpfakfpaaGreatWC1
import Derived.Test.YtkkocgjpfakfpaaGreatWBa
set_option linter.unusedSimpArgs false
set_option linter.unusedVariables false
namespace Go.Abs
open Go.Proofs
set_option maxRecDepth 100000

def pt (i : Nat) : Value := .pointer (some ⟨i, 0, none⟩)
def S5.obj (s : S5) : AObj := .cells [.int .u64 s.a, .int .u64 s.b, .int .u64 s.c, .int .u64 s.d, .int .u64 s.e] 136
def S5.zero : S5 := ⟨0, 0, 0, 0, 0⟩
def itr (s : S5) : Nat → S5
  | 0 => s
  | r + 1 => rnd r (itr s r)

theorem r127_0 (s : S5) (X : Nat → Value) (l : List (Nat × AObj)) : (ex Tryz.prog rotO 60 (codeOf Tryz.f127 [1,0,1,0,0]) ⟨mkT 121 [(1, pt 0), (2, pt 1), (3, .int .i64 0)] X, mkH 2 [(0, s.obj), (1, S5.zero.obj)] l, []⟩).map (obs [1, 2, 3] [0, 1]) = some ⟨0, [pt 0, pt 1, .int .i64 1], 121, 5, [(rnd 0 s).obj, S5.zero.obj], []⟩ := by kernel_rfl
theorem r127_1 (s : S5) (X : Nat → Value) (l : List (Nat × AObj)) : (ex Tryz.prog rotO 60 (codeOf Tryz.f127 [1,0,1,0,0]) ⟨mkT 121 [(1, pt 0), (2, pt 1), (3, .int .i64 1)] X, mkH 5 [(0, s.obj), (1, S5.zero.obj)] l, []⟩).map (obs [1, 2, 3] [0, 1]) = some ⟨0, [pt 0, pt 1, .int .i64 2], 121, 8, [(rnd 1 s).obj, S5.zero.obj], []⟩ := by kernel_rfl
theorem r127_2 (s : S5) (X : Nat → Value) (l : List (Nat × AObj)) : (ex Tryz.prog rotO 60 (codeOf Tryz.f127 [1,0,1,0,0]) ⟨mkT 121 [(1, pt 0), (2, pt 1), (3, .int .i64 2)] X, mkH 8 [(0, s.obj), (1, S5.zero.obj)] l, []⟩).map (obs [1, 2, 3] [0, 1]) = some ⟨0, [pt 0, pt 1, .int .i64 3], 121, 11, [(rnd 2 s).obj, S5.zero.obj], []⟩ := by kernel_rfl
theorem r127_3 (s : S5) (X : Nat → Value) (l : List (Nat × AObj)) : (ex Tryz.prog rotO 60 (codeOf Tryz.f127 [1,0,1,0,0]) ⟨mkT 121 [(1, pt 0), (2, pt 1), (3, .int .i64 3)] X, mkH 11 [(0, s.obj), (1, S5.zero.obj)] l, []⟩).map (obs [1, 2, 3] [0, 1]) = some ⟨0, [pt 0, pt 1, .int .i64 4], 121, 14, [(rnd 3 s).obj, S5.zero.obj], []⟩ := by kernel_rfl
theorem r127_4 (s : S5) (X : Nat → Value) (l : List (Nat × AObj)) : (ex Tryz.prog rotO 60 (codeOf Tryz.f127 [1,0,1,0,0]) ⟨mkT 121 [(1, pt 0), (2, pt 1), (3, .int .i64 4)] X, mkH 14 [(0, s.obj), (1, S5.zero.obj)] l, []⟩).map (obs [1, 2, 3] [0, 1]) = some ⟨0, [pt 0, pt 1, .int .i64 5], 121, 17, [(rnd 4 s).obj, S5.zero.obj], []⟩ := by kernel_rfl
theorem r127_5 (s : S5) (X : Nat → Value) (l : List (Nat × AObj)) : (ex Tryz.prog rotO 60 (codeOf Tryz.f127 [1,0,1,0,0]) ⟨mkT 121 [(1, pt 0), (2, pt 1), (3, .int .i64 5)] X, mkH 17 [(0, s.obj), (1, S5.zero.obj)] l, []⟩).map (obs [1, 2, 3] [0, 1]) = some ⟨0, [pt 0, pt 1, .int .i64 6], 121, 20, [(rnd 5 s).obj, S5.zero.obj], []⟩ := by kernel_rfl
theorem r127_6 (s : S5) (X : Nat → Value) (l : List (Nat × AObj)) : (ex Tryz.prog rotO 60 (codeOf Tryz.f127 [1,0,1,0,0]) ⟨mkT 121 [(1, pt 0), (2, pt 1), (3, .int .i64 6)] X, mkH 20 [(0, s.obj), (1, S5.zero.obj)] l, []⟩).map (obs [1, 2, 3] [0, 1]) = some ⟨0, [pt 0, pt 1, .int .i64 7], 121, 23, [(rnd 6 s).obj, S5.zero.obj], []⟩ := by kernel_rfl
theorem r127_7 (s : S5) (X : Nat → Value) (l : List (Nat × AObj)) : (ex Tryz.prog rotO 60 (codeOf Tryz.f127 [1,0,1,0,0]) ⟨mkT 121 [(1, pt 0), (2, pt 1), (3, .int .i64 7)] X, mkH 23 [(0, s.obj), (1, S5.zero.obj)] l, []⟩).map (obs [1, 2, 3] [0, 1]) = some ⟨0, [pt 0, pt 1, .int .i64 8], 121, 26, [(rnd 7 s).obj, S5.zero.obj], []⟩ := by kernel_rfl
theorem r127_8 (s : S5) (X : Nat → Value) (l : List (Nat × AObj)) : (ex Tryz.prog rotO 60 (codeOf Tryz.f127 [1,0,1,0,0]) ⟨mkT 121 [(1, pt 0), (2, pt 1), (3, .int .i64 8)] X, mkH 26 [(0, s.obj), (1, S5.zero.obj)] l, []⟩).map (obs [1, 2, 3] [0, 1]) = some ⟨0, [pt 0, pt 1, .int .i64 9], 121, 29, [(rnd 8 s).obj, S5.zero.obj], []⟩ := by kernel_rfl
theorem r127_9 (s : S5) (X : Nat → Value) (l : List (Nat × AObj)) : (ex Tryz.prog rotO 60 (codeOf Tryz.f127 [1,0,1,0,0]) ⟨mkT 121 [(1, pt 0), (2, pt 1), (3, .int .i64 9)] X, mkH 29 [(0, s.obj), (1, S5.zero.obj)] l, []⟩).map (obs [1, 2, 3] [0, 1]) = some ⟨0, [pt 0, pt 1, .int .i64 10], 121, 32, [(rnd 9 s).obj, S5.zero.obj], []⟩ := by kernel_rfl
theorem r127_10 (s : S5) (X : Nat → Value) (l : List (Nat × AObj)) : (ex Tryz.prog rotO 60 (codeOf Tryz.f127 [1,0,1,0,0]) ⟨mkT 121 [(1, pt 0), (2, pt 1), (3, .int .i64 10)] X, mkH 32 [(0, s.obj), (1, S5.zero.obj)] l, []⟩).map (obs [1, 2, 3] [0, 1]) = some ⟨0, [pt 0, pt 1, .int .i64 11], 121, 35, [(rnd 10 s).obj, S5.zero.obj], []⟩ := by kernel_rfl
theorem r127_11 (s : S5) (X : Nat → Value) (l : List (Nat × AObj)) : (ex Tryz.prog rotO 60 (codeOf Tryz.f127 [1,0,1,0,0]) ⟨mkT 121 [(1, pt 0), (2, pt 1), (3, .int .i64 11)] X, mkH 35 [(0, s.obj), (1, S5.zero.obj)] l, []⟩).map (obs [1, 2, 3] [0, 1]) = some ⟨0, [pt 0, pt 1, .int .i64 12], 121, 38, [(rnd 11 s).obj, S5.zero.obj], []⟩ := by kernel_rfl
theorem r127_12 (s : S5) (X : Nat → Value) (l : List (Nat × AObj)) : (ex Tryz.prog rotO 60 (codeOf Tryz.f127 [1,0,1,0,0]) ⟨mkT 121 [(1, pt 0), (2, pt 1), (3, .int .i64 12)] X, mkH 38 [(0, s.obj), (1, S5.zero.obj)] l, []⟩).map (obs [1, 2, 3] [0, 1]) = some ⟨2, [pt 0, pt 1, .int .i64 12], 121, 38, [s.obj, S5.zero.obj], []⟩ := by kernel_rfl
end Go.Abs

