/- For every manifest, seed and index the statements ManifestSigns and ManifestAccepts of law 40 hold, with no condition. -/
import Derived.Test.YtkkocgjpfakfpaaGreatWSi
set_option linter.unusedSimpArgs false
set_option linter.unusedVariables false
namespace Go.Abs
open Go.Proofs
set_option maxRecDepth 1000000

-- a way leads to the root
theorem upS_at {ks : List (List Int)} {p : Nat} (hp : p < ks.length) (hk : ¬ ks.length ≤ 1) : (upS ks).getD (p / 2) [] = if xo p < ks.length then (if p % 2 = 0 then pairS (ks.getD p []) (ks.getD (xo p) []) else pairS (ks.getD (xo p) []) (ks.getD p [])) else ks.getD p [] := by
  by_cases hx : xo p < ks.length
  · rw [if_pos hx]
    unfold xo at hx ⊢
    by_cases h2 : p % 2 = 0
    · rw [if_pos h2] at hx ⊢
      rw [if_pos h2, List.getD_eq_getElem?_getD, upS_pair (by omega)]
      have e : 2 * (p / 2) = p := by omega
      rw [e]; rfl
    · rw [if_neg h2] at hx ⊢
      rw [if_neg h2, List.getD_eq_getElem?_getD, upS_pair (by omega)]
      have e : 2 * (p / 2) = p - 1 := by omega
      have e' : p - 1 + 1 = p := by omega
      rw [e, e']; rfl
  · rw [if_neg hx]
    have h : p % 2 = 0 ∧ p + 1 = ks.length := by
      unfold xo at hx
      split at hx <;> omega
    have e : p / 2 = ks.length / 2 := by omega
    have e' : ks.length - 1 = p := by omega
    rw [e, List.getD_eq_getElem?_getD, upS_last (by omega), e']; rfl
theorem ap_top : ∀ (q p : Nat) (ks : List (List Int)), p < ks.length → ks.length ≤ q → apS q p ks.length (sibS (q + 1) p ks) (ks.getD p []) = topS q ks
  | 0, p, ks, h1, h2 => by omega
  | q + 1, p, ks, h1, h2 => by
    unfold apS topS
    by_cases hk : ks.length ≤ 1
    · rw [if_pos hk, if_pos hk]
      have hp : p = 0 := by omega
      subst hp
      rw [List.getD_eq_getElem?_getD, List.getD_eq_getElem?_getD, List.getElem?_eq_getElem h1]; rfl
    · have hul := upS_len ks
      have ih := ap_top q (p / 2) (upS ks) (by omega) (by omega)
      rw [hul, upS_at h1 hk] at ih
      rw [if_neg hk, if_neg hk, ← ih]
      have hs : sibS (q + 1 + 1) p ks = sib1 p ks ++ sibS (q + 1) (p / 2) (upS ks) := by rw [sibS, if_neg hk]
      rw [hs]
      unfold sib1
      by_cases hx : xo p < ks.length
      · rw [if_pos hx, if_pos hx, if_pos hx]
        rfl
      · rw [if_neg hx, if_neg hx, if_neg hx]
        rfl
theorem way_root {i : Nat} {ls : List (List Int)} (hi : i < ls.length) : applyS i ls.length (wayS i ls) (ls.getD i []) = rootS ls := by
  have h := ap_top ls.length i (ls.map nodeS) (by simpa using hi) (by simp)
  have e : (ls.map nodeS).getD i [] = nodeS (ls.getD i []) := by
    rw [List.getD_eq_getElem?_getD, List.getD_eq_getElem?_getD, List.getElem?_map, List.getElem?_eq_getElem hi]; rfl
  rw [e, List.length_map] at h
  unfold applyS rootS wayS
  rw [h]

-- a signature made is accepted
theorem last_part (s : List Int) (i : Nat) (bs : List Int) : lastS (partS s i bs) bs = endsS s i := by
  unfold lastS endsS
  refine List.map_congr_left fun j hj => ?_
  have hc : j < 35 := by simpa using hj
  have h1 := partS_at (s := s) (i := i) (bs := bs) hc
  have h2 := (digS_at bs hc).2
  rw [show (partS s i bs).getD j [] = lnkS ((digS bs).getD j 0) (begS s i j) by rw [List.getD_eq_getElem?_getD, h1]; rfl, lnkS_add]
  congr 1
  omega
theorem ver_made (s : List Int) {i : Nat} (hi : i < 4) (bs : List Int) : verS (i : Int) (i : Int) 4 (partS s i bs) (wayS i (leavesS s)) bs (pubS s) = true := by
  unfold verS vrS
  rw [decide_eq_true ⟨partS_len s i bs, rfl, rfl⟩, Bool.true_and]
  refine decide_eq_true ⟨by omega, by omega, wayS4 hi, ?_⟩
  rw [last_part, Int.toNat_natCast]
  have h := way_root (i := i) (ls := leavesS s) (by rw [leavesS_len]; exact hi)
  rw [leavesS_len] at h
  have e : (leavesS s).getD i [] = sleafS (endsS s i) := by
    rw [List.getD_eq_getElem?_getD]
    simp [leavesS, hi]
  rw [e] at h
  exact h
end Go.Abs

namespace Go.Abs
open Go.Proofs
set_option maxRecDepth 1000000

abbrev T7 (z : Int) (l : List (Nat × Value)) : List Value := mkT 88 ([(2, i64 z), (3, pt 5), (4, pt 6), (6, .bool false)] ++ l) jX
theorem r7a (o0 o1 o2 o3 o4 : AObj) (m : Mg) (s : Nat → Int) (z : Int) : (ex3 Tryz.prog pCall noOO 60 (pre 0 (codeOf Tryz.f7 [])) ⟨⟨[.agg m.all.toArray, dig (dgf s), i64 z] ++ List.replicate 85 undef, h24 o0 o1 o2 o3 o4, []⟩, True⟩).map (obs3 [2,3,4,6] [0,1,2,3,4,5,6])
  = some (⟨0, [i64 z, pt 5, pt 6, .bool false], 88, 7, vL o0 o1 o2 o3 o4 m.all (bytes (dgf s)), []⟩, True) := by kernel_rfl
theorem r7b0 (o0 o1 o2 o3 o4 : AObj) (m : Mg) (s : List Value) (z : Int) : (ex3 Tryz.prog pCall (oo3a [false, true, true, true, true]) 60 (pre 0 (codeOf Tryz.f7 [1,0])) ⟨⟨T7 z [], H6 o0 o1 o2 o3 o4 m.all s, []⟩, True⟩).map (obs3 [2,3,4,6,18] [0,1,2,3,4,5,6])
  = some (⟨0, [i64 z, pt 5, pt 6, .bool false, .bool true], 88, 8, vL o0 o1 o2 o3 o4 m.all s, []⟩, (dcd m.n1 20 false ∧ True) ∧ True) := by kernel_rfl
theorem r7b1 (o0 o1 o2 o3 o4 : AObj) (m : Mg) (s : List Value) (z : Int) : (ex3 Tryz.prog pCall (oo3a [true, false, true, true, true]) 60 (pre 0 (codeOf Tryz.f7 [1,0])) ⟨⟨T7 z [], H6 o0 o1 o2 o3 o4 m.all s, []⟩, True⟩).map (obs3 [2,3,4,6,18] [0,1,2,3,4,5,6])
  = some (⟨0, [i64 z, pt 5, pt 6, .bool false, .bool true], 88, 8, vL o0 o1 o2 o3 o4 m.all s, []⟩, (dcd m.n2 20 false ∧ dcd m.n1 20 true ∧ True) ∧ True) := by kernel_rfl
theorem r7b2 (o0 o1 o2 o3 o4 : AObj) (m : Mg) (s : List Value) (z : Int) : (ex3 Tryz.prog pCall (oo3a [true, true, false, true, true]) 60 (pre 0 (codeOf Tryz.f7 [1,0])) ⟨⟨T7 z [], H6 o0 o1 o2 o3 o4 m.all s, []⟩, True⟩).map (obs3 [2,3,4,6,18] [0,1,2,3,4,5,6])
  = some (⟨0, [i64 z, pt 5, pt 6, .bool false, .bool true], 88, 8, vL o0 o1 o2 o3 o4 m.all s, []⟩, (dcd m.n3 20 false ∧ dcd m.n2 20 true ∧ dcd m.n1 20 true ∧ True) ∧ True) := by kernel_rfl
theorem r7b3 (o0 o1 o2 o3 o4 : AObj) (m : Mg) (s : List Value) (z : Int) : (ex3 Tryz.prog pCall (oo3a [true, true, true, false, true]) 60 (pre 0 (codeOf Tryz.f7 [1,0])) ⟨⟨T7 z [], H6 o0 o1 o2 o3 o4 m.all s, []⟩, True⟩).map (obs3 [2,3,4,6,18] [0,1,2,3,4,5,6])
  = some (⟨0, [i64 z, pt 5, pt 6, .bool false, .bool true], 88, 8, vL o0 o1 o2 o3 o4 m.all s, []⟩, (dcd m.n4 40 false ∧ dcd m.n3 20 true ∧ dcd m.n2 20 true ∧ dcd m.n1 20 true ∧ True) ∧ True) := by kernel_rfl
theorem r7b4 (o0 o1 o2 o3 o4 : AObj) (m : Mg) (s : List Value) (z : Int) : (ex3 Tryz.prog pCall (oo3a [true, true, true, true, false]) 60 (pre 0 (codeOf Tryz.f7 [1,0])) ⟨⟨T7 z [], H6 o0 o1 o2 o3 o4 m.all s, []⟩, True⟩).map (obs3 [2,3,4,6,18] [0,1,2,3,4,5,6])
  = some (⟨0, [i64 z, pt 5, pt 6, .bool false, .bool true], 88, 8, vL o0 o1 o2 o3 o4 m.all s, []⟩, (dcd m.n5 20 false ∧ dcd m.n4 40 true ∧ dcd m.n3 20 true ∧ dcd m.n2 20 true ∧ dcd m.n1 20 true ∧ True) ∧ True) := by kernel_rfl
theorem r7b5 (o0 o1 o2 o3 o4 : AObj) (m : Mg) (s : List Value) (z : Int) : (ex3 Tryz.prog pCall (oo3a [true, true, true, true, true]) 60 (pre 0 (codeOf Tryz.f7 [1,0])) ⟨⟨T7 z [], H6 o0 o1 o2 o3 o4 m.all s, []⟩, True⟩).map (obs3 [2,3,4,6,18] [0,1,2,3,4,5,6])
  = some (⟨0, [i64 z, pt 5, pt 6, .bool false, .bool false], 88, 8, vL o0 o1 o2 o3 o4 m.all s, []⟩, (dcd m.n5 20 true ∧ dcd m.n4 40 true ∧ dcd m.n3 20 true ∧ dcd m.n2 20 true ∧ dcd m.n1 20 true ∧ True) ∧ True) := by kernel_rfl
theorem r7c (z : Int) (b : Value) (H : Heap) : (ex3 Tryz.prog pCall (callO Tryz.prog (oneC 9 awG)) 60 (codeOf Tryz.f7 [1,0,1,0]) ⟨⟨T7 z [(18, b)], H, []⟩, True⟩).map (fun r => (r.1.tag, resA Tryz.prog Tryz.f7 r.2.T r.2.H, r.2.H, r.2.D, r.2.L))
  = some (1, some (.bool true), H, [], True ∧ True) := by kernel_rfl
/-- The manifest signed. -/
def mS (m : Mg) (x : Nat → Int) (i k : Nat) : Mg := ⟨⟨m.p, m.d, clA m.a1 m.n1 7, m.n1, clC m.n1, clA m.a2 m.n2 8, m.n2, clC m.n2, clA m.a3 m.n3 9, m.n3, clC m.n3⟩, x, (i : Int), some ⟨10, 0, none⟩, 35, capG, (i : Int), 4, some ⟨11, 0, none⟩, k, capG⟩
theorem mS_all (m : Mg) (x : Nat → Int) (i k : Nat) : (mS m x i k).all = mR m.toMf 7 (bytes (dgf x)) (i : Int) 10 k := rfl
noncomputable def oo7d (m : Mg) (o0 o1 o2 o3 o4 : AObj) (ls : List Ln) (ss : List Sr) (xs : List Ct) (s : List Int) (i : Nat) (ps way : List (List Int)) (x : List Int) : OpO := callO Tryz.prog (oneC 20 (s20 m o0 o1 o2 o3 o4 ls ss xs s i ps way x))
theorem oo7d_sound (m : Mg) (o0 o1 o2 o3 o4 : AObj) (ls : List Ln) (ss : List Sr) (xs : List Ct) (s : List Int) (i : Nat) (ps way : List (List Int)) (x : List Int) : SoundO Tryz.prog (oo7d m o0 o1 o2 o3 o4 ls ss xs s i ps way x) := callO_sound (s20_sound _ _ _ _ _ _ _ _ _ _ _ _ _ _)
theorem r7d (o0 o1 o2 o3 o4 : AObj) (m : Mg) (ls : List Ln) (ss : List Sr) (xs : List Ct) (s x : Nat → Int) (z : Int) (i : Nat) (ps way : List (List Int)) (b : Value) : (ex3 Tryz.prog pCall (oo7d m o0 o1 o2 o3 o4 ls ss xs (dgf s) i ps way (dgf x)) 60 (pre 0 (codeOf Tryz.f7 [1,1])) ⟨⟨T7 z [(18, b)], H6 o0 o1 o2 o3 o4 m.all (bytes (dgf s)), []⟩, True⟩).map (obs3 [3,4,6,7,8] [0,1,2,3,4,5,6,7,8,9,10,11,12])
  = some (⟨0, [pt 5, pt 6, .bool false, pt 12, i64 0], 88, 13, xA o0 o1 o2 o3 o4 m.all (bytes (dgf s)) (clO m.n1 (ls.flatMap Ln.cells) 37) (clO m.n2 (ss.flatMap Sr.cells) 104) (clO m.n3 (xs.flatMap Ct.cells) 106) ps way (mR m.toMf 7 (bytes (dgf x)) (i : Int) 10 way.length), []⟩,
    S20C m o0 o1 o2 o3 o4 ls ss xs (dgf s) i ps way (dgf x) [.agg m.all.toArray, dig (dgf s), i64 (IntKind.i64.wrap ((IntKind.u64.wrap z).tmod 4))] (H6 o0 o1 o2 o3 o4 m.all (bytes (dgf s))) ∧ True) := by kernel_rfl
abbrev T7b (l : List (Nat × Value)) : List Value := mkT 88 ([(3, pt 5), (4, pt 6), (6, .bool false), (7, pt 12)] ++ l) jX
abbrev H7 (o0 o1 o2 o3 o4 c1 c2 c3 : AObj) (mc s : List Value) (ps way : List (List Int)) (mA : List Value) : Heap := mkH 13 (lA o0 o1 o2 o3 o4 mc s c1 c2 c3 ps way mA) []
noncomputable def oo7e (M : Mg) (ls : List Ln) (ss : List Sr) (xs : List Ct) (s p : List Int) (ps way : List (List Int)) : OpO := orO (callO Tryz.prog (oneC 26 (pbG s p))) (callO Tryz.prog (oneC 24 (chG M ls ss xs ps way p true)))
theorem oo7e_sound (M : Mg) (ls : List Ln) (ss : List Sr) (xs : List Ct) (s p : List Int) (ps way : List (List Int)) : SoundO Tryz.prog (oo7e M ls ss xs s p ps way) := orO_sound (callO_sound (pb26 _ _)) (callO_sound (ch24 _ _ _ _ _ _ _ _))
theorem r7e (o0 o1 o2 o3 o4 c1 c2 c3 : AObj) (m : Mg) (ls : List Ln) (ss : List Sr) (xs : List Ct) (s x p : Nat → Int) (i : Nat) (ps way : List (List Int)) : (ex3 Tryz.prog pCall (oo7e (mS m x i way.length) ls ss xs (dgf s) (dgf p) ps way) 60 (pre 0 (codeOf Tryz.f7 [1,1,1,0])) ⟨⟨T7b [(8, i64 0)], H7 o0 o1 o2 o3 o4 c1 c2 c3 m.all (bytes (dgf s)) ps way (mR m.toMf 7 (bytes (dgf x)) (i : Int) 10 way.length), []⟩, True⟩).map (obs3 [3,4,6,7,38] [0,1,2,3,4,5,6,7,8,9,10,11,12])
  = some (⟨0, [pt 5, pt 6, .bool false, pt 12, .bool false], 88, 13, xA o0 o1 o2 o3 o4 m.all (bytes (dgf s)) c1 c2 c3 ps way (mR m.toMf 7 (bytes (dgf x)) (i : Int) 10 way.length), []⟩,
    ChC (mS m x i way.length) ls ss xs ps way (dgf p) true (.agg (mR m.toMf 7 (bytes (dgf x)) (i : Int) 10 way.length).toArray) (dig (dgf p)) (H7 o0 o1 o2 o3 o4 c1 c2 c3 m.all (bytes (dgf s)) ps way (mR m.toMf 7 (bytes (dgf x)) (i : Int) 10 way.length)) ∧ ((dgf s).length = 32 ∧ dig (dgf s) = dig (dgf s) ∧ dgf p = pubS (dgf s)) ∧ True) := by kernel_rfl
theorem r7f (b : Value) (H : Heap) : (ex3 Tryz.prog pCall noOO 60 (pre 0 (codeOf Tryz.f7 [1,1,1,1,0])) ⟨⟨T7b [(38, b)], H, []⟩, True⟩).map (obsQ [3,4,6,7,9])
  = some (⟨0, [pt 5, pt 6, .bool false, pt 12, i64 ((0 : Nat) : Int)], 88, H, []⟩, True) := by kernel_rfl
theorem r7g (o0 o1 o2 o3 o4 c1 c2 c3 : AObj) (m : Mg) (s : List Value) (ps way : List (List Int)) (mA : List Value) (j : Nat) : (ex3 Tryz.prog pCall noOO 60 (pre 0 (codeOf Tryz.f7 [1,1,1,1,0,1,0,0,0])) ⟨⟨T7b [(9, i64 (j : Int))], H7 o0 o1 o2 o3 o4 c1 c2 c3 m.all s ps way mA, []⟩, True⟩).map (obsQ [3,4,6,7,9,43])
  = some (⟨0, [pt 5, pt 6, .bool false, pt 12, i64 (j : Int), .bool (decide ((j : Int) < (m.n1 : Int)))], 88, H7 o0 o1 o2 o3 o4 c1 c2 c3 m.all s ps way mA, []⟩, True) := by kernel_rfl
noncomputable def oo7h (M : Mf) (ls : List Ln) (ss : List Sr) (xs : List Ct) (lv wy : List (List Int)) (j : Nat) (l : Ln) (x : List Int) : OpO := orO (callO Tryz.prog (oneC 15 (dsG M ls ss xs lv j wy))) (orO (idxO Tryz.prog 60) (orO (ldO Tryz.prog 61 (.agg l.cells.toArray)) (callO Tryz.prog (oneC 18 (pvG (j + 1) lv.length wy l x true)))))
theorem oo7h_sound (M : Mf) (ls : List Ln) (ss : List Sr) (xs : List Ct) (lv wy : List (List Int)) (j : Nat) (l : Ln) (x : List Int) : SoundO Tryz.prog (oo7h M ls ss xs lv wy j l x) := orO_sound (callO_sound (ds15 _ _ _ _ _ _ _)) (orO_sound idxO_sound (orO_sound ldO_sound (callO_sound (pv18 _ _ _ _ _ _))))

theorem r7h (cs0 : List Value) (o1 o2 o3 o4 c1 c2 c3 : AObj) (m : Mg) (ls : List Ln) (ss : List Sr) (xs : List Ct) (s : List Value) (x : Nat → Int) (i : Nat) (ps way lv wy : List (List Int)) (j : Nat) (l : Ln) (b : Value) : (ex3 Tryz.prog pCall (oo7h (mS m.at0 x i way.length).toMf ls ss xs lv wy j l (dgf x)) 60 (codeOf Tryz.f7 [1,1,1,1,0,1,0,0,1]) ⟨⟨T7b [(9, i64 (j : Int)), (43, b)], H7 (.ro cs0) o1 o2 o3 o4 c1 c2 c3 m.at0.all s ps way (mR m.at0.toMf 7 (bytes (dgf x)) (i : Int) 10 way.length), []⟩, True⟩).map (obs3 [3,4,6,7,9] [0,1,2,3,4,5,6,7,8,9,10,11,12])
  = some (⟨0, [pt 5, pt 6, .bool false, pt 12, cw j], 88, 15, xA (.ro cs0) o1 o2 o3 o4 m.at0.all s c1 c2 c3 ps way (mR m.at0.toMf 7 (bytes (dgf x)) (i : Int) 10 way.length), []⟩,
    PvC (j + 1) lv.length wy l (dgf x) true (dig (dgf x)) (.agg l.cells.toArray) ((j + 1 : Nat) : Int) (lv.length : Int) wy.length 0 (flatD wy) ∧ LdC Tryz.prog 37 (some cs0) (0 + j * 38) (.agg l.cells.toArray) ∧ ((0 : Int) ≤ (j : Int) ∧ (j : Int) < (m.at0.n1 : Int)) ∧
    DsC (mS m.at0 x i way.length).toMf ls ss xs lv j wy (H7 (.ro cs0) o1 o2 o3 o4 c1 c2 c3 m.at0.all s ps way (mR m.at0.toMf 7 (bytes (dgf x)) (i : Int) 10 way.length)) (.agg (mR m.at0.toMf 7 (bytes (dgf x)) (i : Int) 10 way.length).toArray) (j : Int) ∧ True) := by kernel_rfl
noncomputable def oo7i (M : Mf) (ls : List Ln) (ss : List Sr) (xs : List Ct) : OpO := orO (callO Tryz.prog (oneC 15 (dsZ M ls ss xs))) (callO Tryz.prog (oneC 9 awG))
theorem oo7i_sound (h9 : ∀ H, Does Tryz.prog 9 [] H (.bool true) H) (M : Mf) (ls : List Ln) (ss : List Sr) (xs : List Ct) : SoundO Tryz.prog (oo7i M ls ss xs) := orO_sound (callO_sound (dz15 _ _ _ _)) (callO_sound (awG_sound h9))
theorem r7i (o0 o1 o2 o3 o4 c1 c2 c3 : AObj) (m : Mg) (M : Mf) (ls : List Ln) (ss : List Sr) (xs : List Ct) (s : List Value) (x : Nat → Int) (i : Nat) (ps way : List (List Int)) (j : Nat) (b : Value) : (ex3 Tryz.prog pCall (oo7i M ls ss xs) 60 (codeOf Tryz.f7 [1,1,1,1,1]) ⟨⟨T7b [(9, i64 (j : Int)), (43, b)], H7 o0 o1 o2 o3 o4 c1 c2 c3 m.all s ps way (mR m.toMf 7 (bytes (dgf x)) (i : Int) 10 way.length), []⟩, True⟩).map (fin3 Tryz.prog Tryz.f7 [0,1,2,3,4])
  = some (⟨1, some (.bool true), 15, [o0, o1, o2, o3, o4], []⟩,
    True ∧ (LvC M ls ss xs ⟨14, [(13, z29), (13, z29)] ++ lA o0 o1 o2 o3 o4 m.all s c1 c2 c3 ps way (mR m.toMf 7 (bytes (dgf x)) (i : Int) 10 way.length)⟩ (.agg (mR m.toMf 7 (bytes (dgf x)) (i : Int) 10 way.length).toArray) ∧ ((-1 : Int) < 0 ∨ (M.n1 : Int) ≤ (-1 : Int))) ∧
    (LvC M ls ss xs (H7 o0 o1 o2 o3 o4 c1 c2 c3 m.all s ps way (mR m.toMf 7 (bytes (dgf x)) (i : Int) 10 way.length)) (.agg (mR m.toMf 7 (bytes (dgf x)) (i : Int) 10 way.length).toArray) ∧ ((m.n1 : Int) < 0 ∨ (M.n1 : Int) ≤ (m.n1 : Int))) ∧ True) := by kernel_rfl

end Go.Abs

namespace Go.Abs
open Go.Proofs
set_option maxRecDepth 1000000

theorem z7 (z : Int) : ∃ i : Nat, i < 4 ∧ IntKind.i64.wrap ((IntKind.u64.wrap z).tmod 4) = (i : Int) := by
  have h0 := (wrap64 z).1
  have ht : (IntKind.u64.wrap z).tmod 4 = (IntKind.u64.wrap z) % 4 := Int.tmod_eq_emod_of_nonneg h0
  refine ⟨((IntKind.u64.wrap z) % 4).toNat, by omega, ?_⟩
  rw [ht, wrapI (by omega) (by omega)]
  omega
theorem leaf_at {m : Mf} {ls : List Ln} {ss : List Sr} {xs : List Ct} {j : Nat} {l : Ln} (h : ls[j]? = some l) : (leaves m ls ss xs).getD (j + 1) [] = l.leaf := by
  unfold leaves
  have hj : j < ls.length := by
    rcases Nat.lt_or_ge j ls.length with h' | h'
    · exact h'
    · rw [List.getElem?_eq_none h'] at h; cases h
  have h' := List.getElem?_eq_some_iff.1 h
  obtain ⟨_, h'⟩ := h'
  simp [List.getElem?_append, hj, h']
theorem grD_slh {H : Heap} {b : Nat} {ds : List (List Int)} (hg : H.get b = grD ds) : SLH H (some ⟨b, 0, none⟩) ds.length capG ds.length (flatD ds) := by
  refine .inr ⟨b, 0, flatD ds, rfl, rfl, ?_, by rw [List.drop_zero, List.take_length], by omega, flatD_c2⟩
  unfold Heap.row
  rw [hg]
  rfl
theorem does7 (h9 : ∀ H, Does Tryz.prog 9 [] H (.bool true) H) {o0 o1 o2 o3 o4 : AObj} {m : Mg} {ls : List Ln} {ss : List Sr} {xs : List Ct} {qs ws : List (List Int)} (hl : SL 0 m.a1 m.n1 m.c1 o0 ls.length (ls.flatMap Ln.cells)) (hs : SL 1 m.a2 m.n2 m.c2 o1 ss.length (ss.flatMap Sr.cells)) (hx : SL 2 m.a3 m.n3 m.c3 o2 xs.length (xs.flatMap Ct.cells)) (hp : SL 3 m.a4 m.n4 m.c4 o3 qs.length (flatD qs)) (hq : SL 4 m.a5 m.n5 m.c5 o4 ws.length (flatD ws))
    (hq32 : ∀ d ∈ qs, d.length = 32) (hw32 : ∀ d ∈ ws, d.length = 32) {s : List Int} (hsl : s.length = 32) (z : Int) :
    Does Tryz.prog 7 [.agg m.all.toArray, dig s, i64 z] (h24 o0 o1 o2 o3 o4) (.bool true) (h24 o0 o1 o2 o3 o4) := by
  refine val_of_awp Tryz.func7 (c := codeOf Tryz.f7 []) rfl rfl (awp_of_awn (n := 5) ?_ (Nat.le_refl _))
  have hfs : dgf (fn s) = s := dgf_of hsl
  have hn1 := hl.n
  have hn2 := hs.n
  have hn3 := hx.n
  have hn5 := hq.n
  have hrv : ∀ (σ : Nat → Option Nat), σ 0 = some 0 → σ 1 = some 1 → σ 2 = some 2 → σ 3 = some 3 → σ 4 = some 4 → F2 (RV σ) m.all m.all := fun σ h0 h1 h2 h3 h4 =>
    .cons (.closed rfl) (.cons (.closed rfl) (.cons (hl.rv h0) (.cons (hs.rv h1) (.cons (hx.rv h2) (F2.append2 (RV.all bytes_c2) (.cons (.closed rfl) (.cons (hp.rv h3) (.cons (.closed rfl) (.cons (.closed rfl) (.cons (hq.rv h4) .nil))))))))))
  have hob : ∀ s', sg 5 s' 5 = some 5 → sg 5 s' 6 = some 6 → ∀ (is : List Nat) (os : List AObj) (l : List (Nat × AObj)), F2 (fun (p q : Nat × AObj) => sg 5 s' q.1 = some p.1 ∧ RO (sg 5 s') p.2 q.2) (is.zip os) l → F2 (fun (p q : Nat × AObj) => sg 5 s' q.1 = some p.1 ∧ RO (sg 5 s') p.2 q.2) (([0,1,2,3,4,5,6] ++ is : List Nat).zip (vL o0 o1 o2 o3 o4 m.all (bytes s) ++ os)) (bL o0 o1 o2 o3 o4 m.all (bytes s) ++ l) := fun s' e5 e6 is os l ho =>
    .cons ⟨rfl, hl.ro⟩ (.cons ⟨rfl, hs.ro⟩ (.cons ⟨rfl, hx.ro⟩ (.cons ⟨rfl, hp.ro⟩ (.cons ⟨rfl, hq.ro⟩ (.cons ⟨e5, .cells (hrv _ rfl rfl rfl rfl rfl)⟩ (.cons ⟨e6, .cells (RV.all bytes_c2)⟩ ho))))))
  have hT : ∀ s' z' b, sg 5 s' 5 = some 5 → sg 5 s' 6 = some 6 → F2 (fun (p q : Nat × Value) => p.1 = q.1 ∧ RV (sg 5 s') p.2 q.2) (([2,3,4,6,18] : List Nat).zip [i64 z', pt 5, pt 6, .bool false, .bool b]) [(2, i64 z'), (3, pt 5), (4, pt 6), (6, .bool false), (18, .bool b)] := fun s' z' b e5 e6 =>
    .cons ⟨rfl, .closed rfl⟩ (.cons ⟨rfl, .ptr e5⟩ (.cons ⟨rfl, .ptr e6⟩ (.cons ⟨rfl, .closed rfl⟩ (.cons ⟨rfl, .closed rfl⟩ .nil))))
  have hra := r7a o0 o1 o2 o3 o4 m (fn s) z
  rw [hfs] at hra
  refine pieceSX pCall_sound noOO_sound 0 hra rfl trivial rfl 7 [(5, 5), (6, 6)] (k2 := [(2, i64 z), (3, pt 5), (4, pt 6), (6, .bool false)]) (D2 := []) rfl (.cons ⟨rfl, .closed rfl⟩ (.cons ⟨rfl, .ptr rfl⟩ (.cons ⟨rfl, .ptr rfl⟩ (.cons ⟨rfl, .closed rfl⟩ .nil)))) (hob _ rfl rfl [] [] [] .nil) .nil ?_
  refine awn_seq (x := codeOf Tryz.f7 [1,0]) (y := codeOf Tryz.f7 [1,1]) ?_
  have kp : Keep (h24 o0 o1 o2 o3 o4) (H6 o0 o1 o2 o3 o4 m.all (bytes s)) := ⟨by show 5 ≤ 7; omega, fun id hid => by
    have : id = 0 ∨ id = 1 ∨ id = 2 ∨ id = 3 ∨ id = 4 := by have : id < 5 := hid; omega
    rcases this with rfl | rfl | rfl | rfl | rfl <;> rfl⟩
  have awk : ∀ (bv : Value), Awn Tryz.prog 5 (codeOf Tryz.f7 [1,0,1,0]) (thenA (Awn Tryz.prog 5 (codeOf Tryz.f7 [1,1]) (EndF Tryz.f7 (h24 o0 o1 o2 o3 o4))) (EndF Tryz.f7 (h24 o0 o1 o2 o3 o4))) (T7 z [(18, bv)]) (H6 o0 o1 o2 o3 o4 m.all (bytes s)) [] := fun bv =>
    awn_mono (Q := fun e T H D => e = .ret ∧ EndF Tryz.f7 (h24 o0 o1 o2 o3 o4) e T H D) (pieceY pCall_sound (callO_sound (awG_sound h9)) (r7c z bv _) ⟨trivial, trivial⟩ kp) (by rintro e T H D ⟨rfl, h⟩; exact h)
  by_cases h1 : m.n1 ≤ 20
  case neg =>
    refine pieceSX pCall_sound (oo3a_sound false true true true true) 0 (r7b0 o0 o1 o2 o3 o4 m (bytes s) z) rfl ⟨⟨dcd_of (decide_eq_false h1), trivial⟩, trivial⟩ rfl 7 [(5, 5), (6, 6)] (D2 := []) rfl (hT _ _ _ rfl rfl) (hob _ rfl rfl [] [] [] .nil) .nil ?_
    exact awn_cond (c := .tmp 18) (b := true) rfl rfl (awk _)
  by_cases h2 : m.n2 ≤ 20
  case neg =>
    refine pieceSX pCall_sound (oo3a_sound true false true true true) 0 (r7b1 o0 o1 o2 o3 o4 m (bytes s) z) rfl ⟨⟨dcd_of (decide_eq_false h2), dcd_of (decide_eq_true h1), trivial⟩, trivial⟩ rfl 7 [(5, 5), (6, 6)] (D2 := []) rfl (hT _ _ _ rfl rfl) (hob _ rfl rfl [] [] [] .nil) .nil ?_
    exact awn_cond (c := .tmp 18) (b := true) rfl rfl (awk _)
  by_cases h3 : m.n3 ≤ 20
  case neg =>
    refine pieceSX pCall_sound (oo3a_sound true true false true true) 0 (r7b2 o0 o1 o2 o3 o4 m (bytes s) z) rfl ⟨⟨dcd_of (decide_eq_false h3), dcd_of (decide_eq_true h2), dcd_of (decide_eq_true h1), trivial⟩, trivial⟩ rfl 7 [(5, 5), (6, 6)] (D2 := []) rfl (hT _ _ _ rfl rfl) (hob _ rfl rfl [] [] [] .nil) .nil ?_
    exact awn_cond (c := .tmp 18) (b := true) rfl rfl (awk _)
  by_cases h4 : m.n4 ≤ 40
  case neg =>
    refine pieceSX pCall_sound (oo3a_sound true true true false true) 0 (r7b3 o0 o1 o2 o3 o4 m (bytes s) z) rfl ⟨⟨dcd_of (decide_eq_false h4), dcd_of (decide_eq_true h3), dcd_of (decide_eq_true h2), dcd_of (decide_eq_true h1), trivial⟩, trivial⟩ rfl 7 [(5, 5), (6, 6)] (D2 := []) rfl (hT _ _ _ rfl rfl) (hob _ rfl rfl [] [] [] .nil) .nil ?_
    exact awn_cond (c := .tmp 18) (b := true) rfl rfl (awk _)
  by_cases h5 : m.n5 ≤ 20
  case neg =>
    refine pieceSX pCall_sound (oo3a_sound true true true true false) 0 (r7b4 o0 o1 o2 o3 o4 m (bytes s) z) rfl ⟨⟨dcd_of (decide_eq_false h5), dcd_of (decide_eq_true h4), dcd_of (decide_eq_true h3), dcd_of (decide_eq_true h2), dcd_of (decide_eq_true h1), trivial⟩, trivial⟩ rfl 7 [(5, 5), (6, 6)] (D2 := []) rfl (hT _ _ _ rfl rfl) (hob _ rfl rfl [] [] [] .nil) .nil ?_
    exact awn_cond (c := .tmp 18) (b := true) rfl rfl (awk _)
  refine pieceSX pCall_sound (oo3a_sound true true true true true) 0 (r7b5 o0 o1 o2 o3 o4 m (bytes s) z) rfl ⟨⟨dcd_of (decide_eq_true h5), dcd_of (decide_eq_true h4), dcd_of (decide_eq_true h3), dcd_of (decide_eq_true h2), dcd_of (decide_eq_true h1), trivial⟩, trivial⟩ rfl 7 [(5, 5), (6, 6)] (D2 := []) rfl (hT _ _ _ rfl rfl) (hob _ rfl rfl [] [] [] .nil) .nil ?_
  refine awn_cond (c := .tmp 18) (b := false) rfl rfl (awn_skip ?_)
  have hll := leaves_len m.toMf ls ss xs
  have hR : MgR m o0 o1 o2 o3 o4 ls ss xs qs ws := ⟨⟨hl, hs, hx, by omega, by omega, by omega⟩, hp, hq, hq32, hw32, by omega, by omega⟩
  have hI := hR.i
  have hpl : (pubS s).length = 32 := pubS_len s
  have hfp : dgf (fn (pubS s)) = pubS s := dgf_of hpl
  obtain ⟨i, hi, hzi⟩ := z7 z
  have hxl : (rtM m.toMf ls ss xs).length = 32 := rootS_len _
  have hps := partS_32 (s := s) (i := i) (bs := rtM m.toMf ls ss xs)
  have hpsl := partS_len s i (rtM m.toMf ls ss xs)
  have hw2 := wayS4 (s := s) hi
  have hw3 := wayS_32 (i := i) (ls := leavesS s)
  have hver := ver_made s hi (rtM m.toMf ls ss xs)
  have hrl : rtM m.toMf ls ss xs = rootS (leaves m.toMf ls ss xs) := rfl
  generalize hX : rtM m.toMf ls ss xs = x at *
  have hfx : dgf (fn x) = x := dgf_of hxl
  generalize hP : partS s i x = ps at *
  generalize hW : wayS i (leavesS s) = way at *
  have hc1 := flat_c2 Ln.cells (fun x => x.cc2) ls
  have hc2 := flat_c2 Sr.cells (fun x => x.cc2) ss
  have hc3 := flat_c2 Ct.cells (fun x => x.cc2) xs
  have hrd := r7d o0 o1 o2 o3 o4 m ls ss xs (fn s) (fn x) z i ps way (.bool false)
  have hre := r7e o0 o1 o2 o3 o4 (clO m.n1 (ls.flatMap Ln.cells) 37) (clO m.n2 (ss.flatMap Sr.cells) 104) (clO m.n3 (xs.flatMap Ct.cells) 106) m ls ss xs (fn s) (fn x) (fn (pubS s)) i ps way
  rw [hfs, hfx] at hrd
  rw [hfs, hfx, hfp] at hre
  have hAo : ∀ s', sg 5 s' 5 = some 5 → sg 5 s' 6 = some 6 → (∀ j, 7 ≤ j → j ≤ 12 → sg 5 s' j = some j) → ∀ (is : List Nat) (os : List AObj) (l : List (Nat × AObj)), F2 (fun (p q : Nat × AObj) => sg 5 s' q.1 = some p.1 ∧ RO (sg 5 s') p.2 q.2) (is.zip os) l → F2 (fun (p q : Nat × AObj) => sg 5 s' q.1 = some p.1 ∧ RO (sg 5 s') p.2 q.2) (([0,1,2,3,4,5,6,7,8,9,10,11,12] ++ is : List Nat).zip (xA o0 o1 o2 o3 o4 m.all (bytes s) (clO m.n1 (ls.flatMap Ln.cells) 37) (clO m.n2 (ss.flatMap Sr.cells) 104) (clO m.n3 (xs.flatMap Ct.cells) 106) ps way (mR m.toMf 7 (bytes x) (i : Int) 10 way.length) ++ os)) (lA o0 o1 o2 o3 o4 m.all (bytes s) (clO m.n1 (ls.flatMap Ln.cells) 37) (clO m.n2 (ss.flatMap Sr.cells) 104) (clO m.n3 (xs.flatMap Ct.cells) 106) ps way (mR m.toMf 7 (bytes x) (i : Int) 10 way.length) ++ l) := fun s' e5 e6 e7 is os l ho =>
    hob s' e5 e6 ([7,8,9,10,11,12] ++ is) _ _ (obU (e7 7 (by omega) (by omega)) (e7 8 (by omega) (by omega)) (e7 9 (by omega) (by omega)) (e7 10 (by omega) (by omega)) (e7 11 (by omega) (by omega)) (e7 12 (by omega) (by omega)) (clO_ro hc1) (clO_ro hc2) (clO_ro hc3) (mR_rv (m := m.toMf) (b := 7) (p := 10) (k := way.length) (x := x) (z := (i : Int)) (e7 7 (by omega) (by omega)) (e7 8 (by omega) (by omega)) (e7 9 (by omega) (by omega)) (e7 10 (by omega) (by omega)) (e7 11 (by omega) (by omega))) ho)
  have e7 : ∀ (s' : List (Nat × Nat)), sg 5 s' 7 = some 7 → sg 5 s' 8 = some 8 → sg 5 s' 9 = some 9 → sg 5 s' 10 = some 10 → sg 5 s' 11 = some 11 → sg 5 s' 12 = some 12 → ∀ j, 7 ≤ j → j ≤ 12 → sg 5 s' j = some j := fun s' g7 g8 g9 g10 g11 g12 j hj1 hj2 => by
    have : j = 7 ∨ j = 8 ∨ j = 9 ∨ j = 10 ∨ j = 11 ∨ j = 12 := by omega
    rcases this with rfl | rfl | rfl | rfl | rfl | rfl
    · exact g7
    · exact g8
    · exact g9
    · exact g10
    · exact g11
    · exact g12
  have hT7 : ∀ s' t v v', sg 5 s' 5 = some 5 → sg 5 s' 6 = some 6 → sg 5 s' 12 = some 12 → RV (sg 5 s') v v' → F2 (fun (p q : Nat × Value) => p.1 = q.1 ∧ RV (sg 5 s') p.2 q.2) (([3,4,6,7,t] : List Nat).zip [pt 5, pt 6, .bool false, pt 12, v]) [(3, pt 5), (4, pt 6), (6, .bool false), (7, pt 12), (t, v')] := fun s' t v v' e5 e6 e12 hv =>
    .cons ⟨rfl, .ptr e5⟩ (.cons ⟨rfl, .ptr e6⟩ (.cons ⟨rfl, .closed rfl⟩ (.cons ⟨rfl, .ptr e12⟩ (.cons ⟨rfl, hv⟩ .nil))))
  refine pieceSX pCall_sound (oo7d_sound _ _ _ _ _ _ _ _ _ _ _ _ _ _) 0 hrd rfl ⟨⟨by rw [hzi], rfl, hI, hsl, hi, hX.symm, by rw [hX]; exact hP.symm, hW.symm⟩, trivial⟩ rfl 13 [(5, 5), (6, 6), (7, 7), (8, 8), (9, 9), (10, 10), (11, 11), (12, 12)] (k2 := [(3, pt 5), (4, pt 6), (6, .bool false), (7, pt 12), (8, i64 0)]) (os2 := lA o0 o1 o2 o3 o4 m.all (bytes s) (clO m.n1 (ls.flatMap Ln.cells) 37) (clO m.n2 (ss.flatMap Sr.cells) 104) (clO m.n3 (xs.flatMap Ct.cells) 106) ps way (mR m.toMf 7 (bytes x) (i : Int) 10 way.length)) (D2 := []) rfl
    (hT7 _ 8 _ _ rfl rfl rfl (.closed rfl)) (hAo _ rfl rfl (e7 _ rfl rfl rfl rfl rfl rfl) [] [] [] .nil) .nil ?_
  refine awn_seq (x := codeOf Tryz.f7 [1,1,1,0]) (y := codeOf Tryz.f7 [1,1,1,1]) ?_
  have hLv : ∀ H : Heap, H.get 7 = clO m.n1 (ls.flatMap Ln.cells) 37 → H.get 8 = clO m.n2 (ss.flatMap Sr.cells) 104 → H.get 9 = clO m.n3 (xs.flatMap Ct.cells) 106 → LvC (mS m (fn x) i way.length).toMf ls ss xs H (.agg (mR m.toMf 7 (bytes x) (i : Int) 10 way.length).toArray) := fun H g7 g8 g9 =>
    ⟨⟨bytes x ++ [i64 (i : Int), sl 10 35, i64 (i : Int), i64 4, sl 11 way.length], by simp [bytes_len, hxl], rfl⟩, cl_slh hl g7, cl_slh hs g8, cl_slh hx g9, by omega, by omega, by omega⟩
  have hchk : chkS (mS m (fn x) i way.length) ls ss xs ps way (pubS s) = true := by
    unfold chkS
    have e1 : rtM (mS m (fn x) i way.length).toMf ls ss xs = x := hX
    rw [e1, decide_eq_true (show x = dgf (mS m (fn x) i way.length).rt from hfx.symm), Bool.true_and]
    exact hver
  have hCh : ChC (mS m (fn x) i way.length) ls ss xs ps way (pubS s) true (.agg (mR m.toMf 7 (bytes x) (i : Int) 10 way.length).toArray) (dig (pubS s)) (H7 o0 o1 o2 o3 o4 (clO m.n1 (ls.flatMap Ln.cells) 37) (clO m.n2 (ss.flatMap Sr.cells) 104) (clO m.n3 (xs.flatMap Ct.cells) 106) m.all (bytes s) ps way (mR m.toMf 7 (bytes x) (i : Int) 10 way.length)) :=
    ⟨by rw [mS_all, hfx], rfl, hpl, ⟨cl_slh hl rfl, cl_slh hs rfl, cl_slh hx rfl, by have := grD_slh (H := H7 o0 o1 o2 o3 o4 (clO m.n1 (ls.flatMap Ln.cells) 37) (clO m.n2 (ss.flatMap Sr.cells) 104) (clO m.n3 (xs.flatMap Ct.cells) 106) m.all (bytes s) ps way (mR m.toMf 7 (bytes x) (i : Int) 10 way.length)) (b := 10) (ds := ps) rfl; rw [hpsl] at this ⊢; exact this, grD_slh rfl, by omega, by omega, by omega, hps, hw3, by omega, by show (leaves m.toMf ls ss xs).length ≤ 63; omega⟩, hchk.symm⟩
  refine pieceSX pCall_sound (oo7e_sound _ _ _ _ _ _ _ _) 0 hre rfl ⟨hCh, ⟨hsl, rfl, rfl⟩, trivial⟩ rfl 13 [(5, 5), (6, 6), (7, 7), (8, 8), (9, 9), (10, 10), (11, 11), (12, 12)] (k2 := [(3, pt 5), (4, pt 6), (6, .bool false), (7, pt 12), (38, .bool false)]) (os2 := lA o0 o1 o2 o3 o4 m.all (bytes s) (clO m.n1 (ls.flatMap Ln.cells) 37) (clO m.n2 (ss.flatMap Sr.cells) 104) (clO m.n3 (xs.flatMap Ct.cells) 106) ps way (mR m.toMf 7 (bytes x) (i : Int) 10 way.length)) (D2 := []) rfl
    (hT7 _ 38 _ _ rfl rfl rfl (.closed rfl)) (hAo _ rfl rfl (e7 _ rfl rfl rfl rfl rfl rfl) [] [] [] .nil) .nil ?_
  refine awn_cond (c := .tmp 38) (b := false) rfl rfl (awn_skip ?_)
  refine awn_seq (x := codeOf Tryz.f7 [1,1,1,1,0]) (y := codeOf Tryz.f7 [1,1,1,1,1]) ?_
  refine pieceT hm pCall_sound noOO_sound 0 (r7f _ _) rfl trivial rfl ?_
  refine awn_block (c := codeOf Tryz.f7 [1,1,1,1,0,1,0]) (awn_loop (c := codeOf Tryz.f7 [1,1,1,1,0,1,0,0])
    (fun q T H D => ∃ j, j + q = m.n1 ∧ T = T7b [(9, i64 (j : Int))] ∧ H = H7 o0 o1 o2 o3 o4 (clO m.n1 (ls.flatMap Ln.cells) 37) (clO m.n2 (ss.flatMap Sr.cells) 104) (clO m.n3 (xs.flatMap Ct.cells) 106) m.all (bytes s) ps way (mR m.toMf 7 (bytes x) (i : Int) 10 way.length) ∧ D = [])
    m.n1 ⟨_, _, _, .refl _ _ _ _ _, 0, by omega, rfl, rfl, rfl⟩ ?_)
  rintro q T H D ⟨j, hq', rfl, rfl, rfl⟩
  refine awn_seq (x := codeOf Tryz.f7 [1,1,1,1,0,1,0,0,0]) (y := codeOf Tryz.f7 [1,1,1,1,0,1,0,0,1]) ?_
  refine pieceT hm pCall_sound noOO_sound 0 (r7g o0 o1 o2 o3 o4 _ _ _ m _ ps way _ j) rfl trivial rfl ?_
  refine awn_cond (c := .tmp 43) (b := decide ((j : Int) < (m.n1 : Int))) rfl rfl ?_
  cases q with
  | zero =>
    rw [decide_eq_false (by omega)]
    refine awn_exit ?_
    have hri := r7i o0 o1 o2 o3 o4 (clO m.n1 (ls.flatMap Ln.cells) 37) (clO m.n2 (ss.flatMap Sr.cells) 104) (clO m.n3 (xs.flatMap Ct.cells) 106) m (mS m (fn x) i way.length).toMf ls ss xs (bytes s) (fn x) i ps way j (.bool false)
    rw [hfx] at hri
    refine pieceF hm pCall_sound (oo7i_sound h9 _ _ _ _) hri ⟨trivial, ⟨hLv _ rfl rfl rfl, .inl (by omega)⟩, ⟨hLv _ rfl rfl rfl, .inr (Int.le_refl _)⟩, trivial⟩ ?_
    intro e T H he hr hn hg
    cases tag1 he
    exact ⟨.inr rfl, rfl, _, hr, rfl, keepF (by rw [hn]; show 5 ≤ 15; omega) hg⟩
  | succ q =>
    rw [decide_eq_true (by omega)]
    refine awn_skip ?_
    obtain ⟨ha, hcp, ho⟩ := hl.pos (by omega)
    have hj : j < ls.length := by omega
    have hat : ls[j]? = some ls[j] := List.getElem?_eq_getElem hj
    obtain ⟨hp1, hp2⟩ := flat_part Ln.cells 38 ls (fun x _ => x.len) j _ hat
    have hlf := leaf_at (m := m.toMf) (ss := ss) (xs := xs) hat
    generalize ls[j] = l at *
    generalize hlv : leaves m.toMf ls ss xs = lv at *
    have hwl := wayS_len (j + 1) lv
    have hway := way_nd (i := j + 1) (ls := lv) (by omega)
    have hwr := way_root (i := j + 1) (ls := lv) (by omega)
    have hwy32 := wayS_32 (i := j + 1) (ls := lv)
    rw [hlf, ← hrl] at hwr
    generalize hwy : wayS (j + 1) lv = wy at *
    have hrh := r7h (ls.flatMap Ln.cells) o1 o2 o3 o4 (clO m.n1 (ls.flatMap Ln.cells) 37) (clO m.n2 (ss.flatMap Sr.cells) 104) (clO m.n3 (xs.flatMap Ct.cells) 106) m ls ss xs (bytes s) (fn x) i ps way lv wy j l (.bool true)
    rw [hfx, Mg.at0_eq ha hcp, cw, wrap_i1 (by omega), Nat.zero_add, ← ho] at hrh
    have hL := ldC_agg agg37 siz37 hp2 hp1
    refine pieceEX pCall_sound (oo7h_sound _ _ _ _ _ _ _ _ _) hrh ⟨⟨hxl, rfl, rfl, sliC_self hwy32, rfl, rfl, by omega, by omega, by omega, hway.symm, by omega, ⟨fun _ => hwr, fun _ => rfl⟩⟩, hL, ⟨by omega, by omega⟩, ⟨hLv _ rfl rfl rfl, hlv.symm, by omega, rfl, hj, hwy.symm⟩, trivial⟩ rfl 13 [(5, 5), (6, 6), (7, 7), (8, 8), (9, 9), (10, 10), (11, 11), (12, 12)] (k2 := [(3, pt 5), (4, pt 6), (6, .bool false), (7, pt 12), (9, i64 ((j + 1 : Nat) : Int))]) (D2 := []) rfl
      (hT7 _ 9 _ _ rfl rfl rfl (.closed rfl)) (hAo _ rfl rfl (e7 _ rfl rfl rfl rfl rfl rfl) [] [] [] .nil) .nil ?_
    intro T H D hN
    exact ⟨q, by omega, _, _, _, hN, j + 1, by omega, rfl, rfl, rfl⟩
end Go.Abs

