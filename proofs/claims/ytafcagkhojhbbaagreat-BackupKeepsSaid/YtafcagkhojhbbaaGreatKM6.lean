/- BackupKeeps of law 31: Keep and Expire of the program return the lists of the specification, for all days, numbers of days and today; no condition. -/
import Derived.Test.YtafcagkhojhbbaaGreatKM4
import Derived.Test.YtafcagkhojhbbaaGreatKM5
import Derived.Test.YtafcagkhojhbbaaGreatKE3
set_option linter.unusedSimpArgs false
set_option linter.unusedVariables false
namespace Go.Abs
open Go.Proofs
set_option maxRecDepth 1000000
theorem wrap_u64 (x : Int) : 0 ≤ IntKind.u64.wrap x := by
  simp [IntKind.wrap, IntKind.bits, IntKind.signed]
  omega
theorem kK_ok (k : Int) : 1 ≤ kK k ∧ kK k ≤ 40 := by
  unfold kK
  have h0 := wrap_u64 k
  generalize IntKind.u64.wrap k = u at h0 ⊢
  have h1 : u.tmod 40 = u % 40 := Int.tmod_eq_emod_of_nonneg h0
  rw [h1]
  have h2 : 0 ≤ u % 40 := by omega
  have h3 : u % 40 < 40 := by omega
  generalize u % 40 = x at h2 h3 ⊢
  have e1 : IntKind.i64.wrap x = x := by
    simp [IntKind.wrap, IntKind.bits, IntKind.signed]
    omega
  rw [e1]
  have e2 : IntKind.i64.wrap (1 + x) = 1 + x := by
    simp [IntKind.wrap, IntKind.bits, IntKind.signed]
    omega
  rw [e2]
  omega

-- the head of the main function
theorem r3a (o : AObj) (n : Nat) (k t : Int) : (ex3 Tryz.prog cR (oo0 false) 60 (pre 3 (codeOf Tryz.f3 [])) ⟨⟨[slc 0 0 n capG, i64 k, i64 t] ++ List.replicate 129 undef, ⟨1, [(0, o)]⟩, []⟩, True⟩).map (obs3 [0,1,2,7,8,9] [0,1,2,3,4,5])
  = some (⟨0, [slc 0 0 n capG, i64 k, i64 t, pt 5, nilS, nilS], 132, 6, cObs o (kK k), []⟩, (IntKind.u64 = IntKind.u64 ∧ (40 : Int) ≠ 0) ∧ sB' (decide ((n : Int) > 20)) false ∧ True) := by kernel_rfl
theorem r3n (o : AObj) (k t : Int) : (ex3 Tryz.prog cR (oo0 false) 60 (pre 3 (codeOf Tryz.f3 [])) ⟨⟨[nilS, i64 k, i64 t] ++ List.replicate 129 undef, ⟨1, [(0, o)]⟩, []⟩, True⟩).map (obs3 [0,1,2,7,8,9] [0,1,2,3,4,5])
  = some (⟨0, [nilS, i64 k, i64 t, pt 5, nilS, nilS], 132, 6, cObs o (kK k), []⟩, (IntKind.u64 = IntKind.u64 ∧ (40 : Int) ≠ 0) ∧ sB' false false ∧ True) := by kernel_rfl
theorem r3e (o : AObj) (k t : Int) : (ex3 Tryz.prog cR (oo0 false) 60 (pre 3 (codeOf Tryz.f3 [])) ⟨⟨[nilE, i64 k, i64 t] ++ List.replicate 129 undef, ⟨1, [(0, o)]⟩, []⟩, True⟩).map (obs3 [0,1,2,7,8,9] [0,1,2,3,4,5])
  = some (⟨0, [nilE, i64 k, i64 t, pt 5, nilS, nilS], 132, 6, cObs o (kK k), []⟩, (IntKind.u64 = IntKind.u64 ∧ (40 : Int) ≠ 0) ∧ sB' false false ∧ True) := by kernel_rfl
noncomputable def ooB : OpO := orO (forceO Tryz.prog 23 (.bool true)) (callO Tryz.prog (oneC 4 awG))
theorem ooB_sound : SoundO Tryz.prog ooB := orO_sound forceO_sound (callO_sound aw4)
theorem r3big (o : AObj) (n : Nat) (k t : Int) : (ex3 Tryz.prog cR ooB 60 (codeOf Tryz.f3 []) ⟨⟨[slc 0 0 n capG, i64 k, i64 t] ++ List.replicate 129 undef, ⟨1, [(0, o)]⟩, []⟩, True⟩).map (fin3 Tryz.prog Tryz.f3 [0])
  = some (⟨1, some (.bool true), 1, [o], []⟩, True ∧ sB' (decide ((n : Int) > 20)) true ∧ True) := by kernel_rfl
theorem r3c (a b x y z u w : Value) (H : Heap) : (ex3 Tryz.prog cR noOO 60 (pre 0 (codeOf Tryz.f3 [1,1,1,1,0])) ⟨⟨mkT 132 [(0, x), (1, y), (2, z), (7, u), (8, a), (9, b)] jX', H, []⟩, True⟩).map (obsQ [0,1,2,7,8,9,10])
  = some (⟨0, [x, y, z, u, a, b, i64 ((0 : Nat) : Int)], 132, H, []⟩, True) := by kernel_rfl
abbrev T3v (x : Value) (k t : Int) (a b : Value) (i : Int) : List Value := mkT 132 [(0, x), (1, i64 k), (2, i64 t), (7, pt 5), (8, a), (9, b), (10, i64 i)] jX'
theorem r3h (n j : Nat) (k t : Int) (a b : Value) (H : Heap) : (ex3 Tryz.prog cR noOO 60 (pre 0 (codeOf Tryz.f3 [1,1,1,1,0,1,0,0,0])) ⟨⟨T3v (slc 0 0 n capG) k t a b (j : Int), H, []⟩, True⟩).map (obsQ [0,1,2,7,8,9,10,41])
  = some (⟨0, [slc 0 0 n capG, i64 k, i64 t, pt 5, a, b, i64 (j : Int), .bool (decide ((j : Int) < (n : Int)))], 132, H, []⟩, True) := by kernel_rfl
theorem r3hn (k t : Int) (a b : Value) (H : Heap) : (ex3 Tryz.prog cR noOO 60 (pre 0 (codeOf Tryz.f3 [1,1,1,1,0,1,0,0,0])) ⟨⟨T3v nilS k t a b ((0 : Nat) : Int), H, []⟩, True⟩).map (obsQ [0,1,2,7,8,9,10,41])
  = some (⟨0, [nilS, i64 k, i64 t, pt 5, a, b, i64 ((0 : Nat) : Int), .bool false], 132, H, []⟩, True) := by kernel_rfl
theorem r3he (k t : Int) (a b : Value) (H : Heap) : (ex3 Tryz.prog cR noOO 60 (pre 0 (codeOf Tryz.f3 [1,1,1,1,0,1,0,0,0])) ⟨⟨T3v nilE k t a b ((0 : Nat) : Int), H, []⟩, True⟩).map (obsQ [0,1,2,7,8,9,10,41])
  = some (⟨0, [nilE, i64 k, i64 t, pt 5, a, b, i64 ((0 : Nat) : Int), .bool false], 132, H, []⟩, True) := by kernel_rfl

-- behind the loop
abbrev kA (t : Int) : List (Nat × Value) := [(2, i64 t), (7, pt 5)]
theorem r15 (o : AObj) (K t i k : Int) (av bv v7 v8 x y z : Value) (l l9 l10 : List (Nat × AObj)) : (ex3 Tryz.prog cR (oo15 (aE av t) (aE bv t) (H3 o K 8 l) (H3 o K 9 l9) (H3 o K 10 l10) v7 v8) 60 (pre 0 (codeOf Tryz.f3 [1,1,1,1,1])) ⟨⟨mkT 132 [(0, x), (1, i64 k), (2, i64 t), (7, pt 5), (8, av), (9, bv), (10, y), (41, z)] jX', H3 o K 8 l, []⟩, True⟩).map (obsQ [2,7,8,16,17])
  = some (⟨0, [i64 t, pt 5, av, v7, v8], 132, H3 o K 10 l10, []⟩, (aE bv t = aE bv t ∧ H3 o K 9 l9 = H3 o K 9 l9) ∧ some (Value.agg mCat.toArray) = some (Value.agg mCat.toArray) ∧ (aE av t = aE av t ∧ H3 o K 8 l = H3 o K 8 l) ∧ True) := by kernel_rfl
theorem r16n (t : Int) (H : Heap)  : (ex3 Tryz.prog cR oo16 60 (pre 0 (codeOf Tryz.f3 [1,1,1,1,1,1])) ⟨⟨mkT 132 (kA t ++ [(8, nilS), (16, nilS), (17, nilS)]) jX', H, []⟩, True⟩).map (obsQ [2,7,16,17])
  = some (⟨0, [i64 t, pt 5, nilS, nilS], 132, H, []⟩, sB' false false ∧ sB' false false ∧ True) := by kernel_rfl
theorem r16m (t : Int) (m : Nat) (H : Heap)  : (ex3 Tryz.prog cR oo16 60 (pre 0 (codeOf Tryz.f3 [1,1,1,1,1,1])) ⟨⟨mkT 132 (kA t ++ [(8, slc 6 0 m capG), (16, nilS), (17, nilS)]) jX', H, []⟩, True⟩).map (obsQ [2,7,16,17])
  = some (⟨0, [i64 t, pt 5, nilS, nilS], 132, H, []⟩, sB' false false ∧ sB' (decide ((m : Int) > 8)) false ∧ True) := by kernel_rfl
theorem r16s (t : Int) (m u : Nat) (H : Heap)  : (ex3 Tryz.prog cR oo16 60 (pre 0 (codeOf Tryz.f3 [1,1,1,1,1,1])) ⟨⟨mkT 132 (kA t ++ [(8, slc 6 0 m capG), (16, slc 8 0 u capG), (17, slc 9 0 u capG)]) jX', H, []⟩, True⟩).map (obsQ [2,7,16,17])
  = some (⟨0, [i64 t, pt 5, slc 8 0 u capG, slc 9 0 u capG], 132, H, []⟩, sB' ((u : Int) != (u : Int)) false ∧ sB' (decide ((m : Int) > 8)) false ∧ True) := by kernel_rfl
theorem r18 (t : Int) (a b : Value) (H : Heap)  : (ex3 Tryz.prog cR noOO 60 (pre 0 (codeOf Tryz.f3 [1,1,1,1,1,1,1,0])) ⟨⟨mkT 132 (kA t ++ [(16, a), (17, b)]) jX', H, []⟩, True⟩).map (obsQ [2,7,16,17,18])
  = some (⟨0, [i64 t, pt 5, a, b, i64 ((0 : Nat) : Int)], 132, H, []⟩, True) := by kernel_rfl
theorem r19s (t : Int) (u j : Nat) (H : Heap)  : (ex3 Tryz.prog cR noOO 60 (pre 0 (codeOf Tryz.f3 [1,1,1,1,1,1,1,0,1,0,0,0])) ⟨⟨mkT 132 (kA t ++ [(16, slc 8 0 u capG), (17, slc 9 0 u capG), (18, i64 (j : Int))]) jX', H, []⟩, True⟩).map (obsQ [2,7,16,17,18,99])
  = some (⟨0, [i64 t, pt 5, slc 8 0 u capG, slc 9 0 u capG, i64 (j : Int), .bool (decide ((j : Int) < (u : Int)))], 132, H, []⟩, True) := by kernel_rfl
theorem r19n (t : Int) (H : Heap)  : (ex3 Tryz.prog cR noOO 60 (pre 0 (codeOf Tryz.f3 [1,1,1,1,1,1,1,0,1,0,0,0])) ⟨⟨mkT 132 (kA t ++ [(16, nilS), (17, nilS), (18, i64 ((0 : Nat) : Int))]) jX', H, []⟩, True⟩).map (obsQ [2,7,16,17,18,99])
  = some (⟨0, [i64 t, pt 5, nilS, nilS, i64 ((0 : Nat) : Int), .bool false], 132, H, []⟩, True) := by kernel_rfl
theorem oo21_sound (a b : Value) : SoundO Tryz.prog (oo21 a b) := orO_sound idxO_sound (orO_sound ldO_sound (orO_sound idxO_sound (orO_sound ldO_sound (callO_sound (inC_sound hm cR_sound (orO_sound forceO_sound forceO_sound))))))
abbrev LC (r : List Value) (u j : Nat) (x : Value) (P : Prop) : Prop := LdC Tryz.prog 46 (some r) (0 + ((j : Int)).toNat * 4) x ∧ ((0 : Int) ≤ (j : Int) ∧ (j : Int) < (u : Int)) ∧ P
theorem r21 (o : AObj) (K t d q : Int) (x : Value) (ra rb : List Value) (u j : Nat)  : (ex3 Tryz.prog cR (oo21 (.agg #[i64 d, i64 q, nilS, anonV]) (.agg #[i64 d, i64 q, nilS, nilS])) 60 (codeOf Tryz.f3 [1,1,1,1,1,1,1,0,1,0,0,1]) ⟨⟨mkT 132 (kA t ++ [(16, slc 8 0 u capG), (17, slc 9 0 u capG), (18, i64 (j : Int)), (99, x)]) jX', H3 o K 10 [(8, .grow ra 46), (9, .grow rb 46)], []⟩, True⟩).map (obs3 [2,7,16,17,18] [0,1,2,3,4,5,8,9])
  = some (⟨0, [i64 t, pt 5, slc 8 0 u capG, slc 9 0 u capG, i64 (IntKind.i64.wrap ((j : Int) + 1))], 132, 12, cObs o K ++ [.grow ra 46, .grow rb 46], []⟩, (sB' (q != q) false ∧ sB' (d != d) false ∧ True) ∧ LC rb u j (.agg #[i64 d, i64 q, nilS, nilS]) (LC ra u j (.agg #[i64 d, i64 q, nilS, anonV]) True)) := by kernel_rfl
theorem r23 (o : AObj) (K t : Int) (l : List (Nat × AObj)) (a b x y : Value) : (ex3 Tryz.prog cR (callO Tryz.prog (oneC 4 awG)) 60 (codeOf Tryz.f3 [1,1,1,1,1,1,1,1]) ⟨⟨mkT 132 (kA t ++ [(16, a), (17, b), (18, x), (99, y)]) jX', H3 o K 10 l, []⟩, True⟩).map (fin3 Tryz.prog Tryz.f3 [0])
  = some (⟨1, some (.bool true), 18, [o], []⟩, True ∧ True) := by kernel_rfl
end Go.Abs

