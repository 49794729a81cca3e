/- For every manifest, seed and index the statements ManifestSigns and ManifestAccepts of law 40 hold, with no condition. -/
import Derived.Test.YtkkocgjpfakfpaaGreatWSe
set_option linter.unusedSimpArgs false
set_option linter.unusedVariables false
namespace Go.Abs
open Go.Proofs
set_option maxRecDepth 1000000

-- proofs that do not fit
abbrev erP : Value := .tuple #[dig zl, i64 1]
noncomputable def oo84x (x : Nat) : OpO := orO (forceO Tryz.prog 44 (i64 (x : Int))) (orO (forceO Tryz.prog 46 (.bool true)) (forceO Tryz.prog 51 (.bool true)))
theorem oo84x_sound (x : Nat) : SoundO Tryz.prog (oo84x x) := orO_sound forceO_sound (orO_sound forceO_sound forceO_sound)
theorem r84x (cs d g : List Value) (i n k c p m x : Nat) (b : Value) : (ex3 Tryz.prog pCall (oo84x x) 60 (codeOf Tryz.f84 [1,1,1,1,0,1,0,0,1]) ⟨⟨T84c c p m b, H84b cs d g i n k, D84⟩, True⟩).map (fin3 Tryz.prog Tryz.f84 [0])
  = some (⟨1, some erP, 6, [.ro cs], D84⟩, some (Value.bool ((c : Int) == (k : Int))) = some (Value.bool true) ∧ some (Value.bool (decide ((x : Int) < (m : Int)))) = some (Value.bool true) ∧ XoC p x ∧ True) := by kernel_rfl
theorem r84y (cs d g : List Value) (i n k c p m : Nat) (b : Value) : (ex3 Tryz.prog pCall (forceO Tryz.prog 78 (.bool true)) 60 (codeOf Tryz.f84 [1,1,1,1,1]) ⟨⟨T84c c p m b, H84b cs d g i n k, D84⟩, True⟩).map (fin3 Tryz.prog Tryz.f84 [0])
  = some (⟨1, some erP, 6, [.ro cs], D84⟩, some (Value.bool ((c : Int) != (k : Int))) = some (Value.bool true) ∧ True) := by kernel_rfl
noncomputable def oo85x (b : Bool) : OpO := orO (forceO Tryz.prog 44 (.bool b)) (orO (forceO Tryz.prog 49 (.bool true)) (forceO Tryz.prog 55 (.bool true)))
theorem oo85x_sound (b : Bool) : SoundO Tryz.prog (oo85x b) := orO_sound forceO_sound (orO_sound forceO_sound forceO_sound)
theorem r85x (cs d g : List Value) (i n k c p m : Nat) (b : Value) : (ex3 Tryz.prog pCall (oo85x true) 60 (codeOf Tryz.f85 [1,1,1,1,1,0,1,0,0,1]) ⟨⟨T85c c p m b, H85b cs d g i n k, []⟩, True⟩).map (fin3 Tryz.prog Tryz.f85 [0])
  = some (⟨1, some erP, 5, [.ro cs], []⟩, some (Value.bool (decide ((c : Int) ≥ (k : Int)))) = some (Value.bool true) ∧ B85 p true ∧ True) := by kernel_rfl
theorem r85w (cs d g : List Value) (i n k c p m : Nat) (b : Value) : (ex3 Tryz.prog pCall (oo85x false) 60 (codeOf Tryz.f85 [1,1,1,1,1,0,1,0,0,1]) ⟨⟨T85c c p m b, H85b cs d g i n k, []⟩, True⟩).map (fin3 Tryz.prog Tryz.f85 [0])
  = some (⟨1, some erP, 5, [.ro cs], []⟩, some (Value.bool (decide ((c : Int) ≥ (k : Int)))) = some (Value.bool true) ∧ some (Value.bool (decide (IntKind.i64.wrap ((p : Int) + 1) < (m : Int)))) = some (Value.bool true) ∧ B85 p false ∧ True) := by kernel_rfl
theorem r85y (cs d g : List Value) (i n k c p m : Nat) (b : Value) : (ex3 Tryz.prog pCall (forceO Tryz.prog 82 (.bool true)) 60 (codeOf Tryz.f85 [1,1,1,1,1,1]) ⟨⟨T85c c p m b, H85b cs d g i n k, []⟩, True⟩).map (fin3 Tryz.prog Tryz.f85 [0])
  = some (⟨1, some erP, 5, [.ro cs], []⟩, some (Value.bool (decide ((c : Int) < (k : Int)))) = some (Value.bool true) ∧ True) := by kernel_rfl
theorem does84e {ss : List (List Int)} {d : List Int} {i n : Nat} (hs : ∀ d ∈ ss, d.length = 32) (hd : d.length = 32) (h1 : 1 ≤ n) (hb : n ≤ 63) (hi : i < n) (hnd : ndS n i n ≠ ss.length) (hsl : ss.length ≤ 100) :
    Does Tryz.prog 84 [dig d, pv i n (sl 0 ss.length)] ⟨1, [(0, .ro (flatD ss))]⟩ erP ⟨1, [(0, .ro (flatD ss))]⟩ := by
  refine val_of_awp Tryz.func84 (c := codeOf Tryz.f84 []) rfl rt_c2 (awp_of_awn (n := 1) ?_ (Nat.le_refl _))
  have hdf : dgf (fn d) = d := dgf_of hd
  have hnf : dgf (fn (nodeS d)) = nodeS d := dgf_of (nodeS_len d)
  have hra := r84a (flatD ss) (fn d) n i ss.length
  have hrc := r84c (flatD ss) (fn d) (fn (nodeS d)) n i ss.length (.bool false)
  rw [hdf] at hra
  rw [hdf, hnf] at hrc
  have hro : ∀ (σ : Nat → Option Nat), RO σ (.ro (flatD ss)) (.ro (flatD ss)) := fun σ => .ro (RV.all flatD_c2)
  refine pieceS hm pCall_sound noOO_sound 1 hra rfl trivial rfl 5 [(1, 1), (2, 2), (3, 3), (4, 4)] (os2 := o84 (flatD ss) (bytes d) i n ss.length) rfl
    (.cons ⟨rfl, hro _⟩ (.cons ⟨rfl, .cells (RV.all bytes_c2)⟩ (.cons ⟨rfl, .pf (.slice rfl)⟩ (.cons ⟨rfl, .cells (RV.all bytes_c2)⟩ (.cons ⟨rfl, .cells (.cons (.closed rfl) .nil)⟩ .nil))))) (df84 rfl rfl) ?_
  refine awn_seq (x := codeOf Tryz.f84 [1,1,0]) (y := codeOf Tryz.f84 [1,1,1]) ?_
  refine pieceT hm pCall_sound oo84_sound 0 (r84b (flatD ss) (bytes d) n i ss.length) rfl (c84_ok h1 hb hi) rfl ?_
  refine awn_cond (c := .tmp 30) (b := false) rfl rfl (awn_skip ?_)
  refine pieceS hm pCall_sound (ndP131 _ _) 0 hrc rfl ⟨rfl, rfl, rfl, ⟨hd, rfl, rfl⟩, trivial⟩ rfl 6 [(1, 1), (2, 2), (3, 3), (4, 4), (5, 5)] rfl (ob84 rfl rfl rfl rfl rfl) (df84 rfl rfl) ?_
  refine awn_seq (x := codeOf Tryz.f84 [1,1,1,1,0]) (y := codeOf Tryz.f84 [1,1,1,1,1]) ?_
  refine pieceT hm pCall_sound noOO_sound 0 (r84d (flatD ss) (bytes d) (bytes (nodeS d)) n i ss.length 0 i) rfl trivial rfl ?_
  refine awn_block (c := codeOf Tryz.f84 [1,1,1,1,0,1,0]) (awn_loop (c := codeOf Tryz.f84 [1,1,1,1,0,1,0,0])
    (fun k T H D => ∃ (p m q c : Nat) (g : List Int), m = k ∧ 1 ≤ m ∧ m ≤ 63 ∧ m ≤ q + 1 ∧ p < m ∧ c + ndS q p m = ndS n i n ∧ c ≤ ss.length ∧ g.length = 32 ∧ T = T84b c p m ∧ H = H84b (flatD ss) (bytes d) (bytes g) i n ss.length ∧ D = D84)
    n ⟨_, _, _, .refl _ _ _ _ _, i, n, n, 0, nodeS d, rfl, h1, hb, by omega, hi, by omega, by omega, nodeS_len d, rfl, rfl, rfl⟩ ?_)
  rintro k T H D ⟨p, m, q, c, g, rfl, hm1, hm63, hq, hp, hc, hcs, hg, rfl, rfl, rfl⟩
  refine awn_seq (x := codeOf Tryz.f84 [1,1,1,1,0,1,0,0,0]) (y := codeOf Tryz.f84 [1,1,1,1,0,1,0,0,1]) ?_
  refine pieceT hm pCall_sound noOO_sound 0 (r84e _ _ c p m) rfl trivial rfl ?_
  refine awn_cond (c := .tmp 39) (b := decide ((m : Int) > 1)) rfl rfl ?_
  by_cases h2 : m ≤ 1
  · rw [decide_eq_false (by omega)]
    refine awn_exit ?_
    rw [ndS_end h2] at hc
    refine pieceF hm pCall_sound forceO_sound (r84y (flatD ss) (bytes d) (bytes g) i n ss.length c p m (.bool false)) ⟨by rw [show ((c : Int) != (ss.length : Int)) = true by simp; omega], trivial⟩ ?_
    intro e T H he hr hn hgt
    cases tag1 he
    exact ⟨.inr rfl, rfl, _, hr, rfl, keep1 (by rw [hn]; show 1 ≤ 6; omega) (hgt (0, _) (.head _))⟩
  · rw [decide_eq_true (by omega)]
    refine awn_skip ?_
    obtain ⟨q', rfl⟩ : ∃ q', q = q' + 1 := ⟨q - 1, by omega⟩
    rw [ndS, if_neg h2] at hc
    by_cases hbad : xo p < m ∧ c = ss.length
    · have hx := xoC_ok (p := p) (by omega)
      refine pieceF hm pCall_sound (oo84x_sound _) (r84x (flatD ss) (bytes d) (bytes g) i n ss.length c p m (xo p) (.bool true)) ⟨by rw [show ((c : Int) == (ss.length : Int)) = true by simp; omega], by rw [decide_eq_true (by omega)], hx, trivial⟩ ?_
      intro e T H he hr hn hgt
      cases tag1 he
      exact ⟨.inr rfl, rfl, _, hr, rfl, keep1 (by rw [hn]; show 1 ≤ 6; omega) (hgt (0, _) (.head _))⟩
    refine round84 hs hg hp (by omega) hm63 (by omega) (fun hx => by
      apply Classical.byContradiction
      intro hcc
      exact hbad ⟨hx, by omega⟩) ?_
    rintro T H D ⟨c', g', hg', hcase, hN⟩
    rcases hcase with ⟨hx, rfl, s, hs', rfl⟩ | ⟨hx, rfl, rfl⟩
    · rw [if_pos hx] at hc
      have := (List.getElem?_eq_some_iff.1 hs').1
      exact ⟨(m + 1) / 2, by omega, _, _, _, hN, p / 2, (m + 1) / 2, q', c + 1, _, rfl, by omega, by omega, by omega, by omega, by omega, by omega, hg', rfl, rfl, rfl⟩
    · rw [if_neg hx] at hc
      exact ⟨(m + 1) / 2, by omega, _, _, _, hN, p / 2, (m + 1) / 2, q', _, _, rfl, by omega, by omega, by omega, by omega, by omega, by omega, hg', rfl, rfl, rfl⟩
theorem does85e {ss : List (List Int)} {d : List Int} {i n : Nat} (hs : ∀ d ∈ ss, d.length = 32) (hd : d.length = 32) (h1 : 1 ≤ n) (hb : n ≤ 63) (hi : i < n) (hnd : ndS n i n ≠ ss.length) (hsl : ss.length ≤ 100) :
    Does Tryz.prog 85 [dig d, pv i n (sl 0 ss.length)] ⟨1, [(0, .ro (flatD ss))]⟩ erP ⟨1, [(0, .ro (flatD ss))]⟩ := by
  refine val_of_awp Tryz.func85 (c := codeOf Tryz.f85 []) rfl rt_c2 (awp_of_awn (n := 1) ?_ (Nat.le_refl _))
  have hdf : dgf (fn d) = d := dgf_of hd
  have hnf : dgf (fn (nodeS d)) = nodeS d := dgf_of (nodeS_len d)
  have hra := r85a (flatD ss) (fn d) n i ss.length
  have hrc := r85c (flatD ss) (fn d) (fn (nodeS d)) n i ss.length (.bool false)
  rw [hdf] at hra
  rw [hdf, hnf] at hrc
  have hro : ∀ (σ : Nat → Option Nat), RO σ (.ro (flatD ss)) (.ro (flatD ss)) := fun σ => .ro (RV.all flatD_c2)
  refine pieceS hm pCall_sound noOO_sound 0 hra rfl trivial rfl 4 [(1, 1), (2, 2), (3, 3)] (os2 := o85 (flatD ss) (bytes d) i n ss.length) rfl
    (.cons ⟨rfl, hro _⟩ (.cons ⟨rfl, .cells (RV.all bytes_c2)⟩ (.cons ⟨rfl, .pf (.slice rfl)⟩ (.cons ⟨rfl, .cells (RV.all bytes_c2)⟩ .nil)))) .nil ?_
  refine awn_seq (x := codeOf Tryz.f85 [1,0]) (y := codeOf Tryz.f85 [1,1]) ?_
  refine pieceT hm pCall_sound oo85_sound 0 (r85b (flatD ss) (bytes d) n i ss.length) rfl (c84_ok h1 hb hi) rfl ?_
  refine awn_cond (c := .tmp 29) (b := false) rfl rfl (awn_skip ?_)
  refine pieceS hm pCall_sound (callO_sound (nd80 _ _)) 2 hrc rfl ⟨⟨hd, rfl, rfl⟩, trivial⟩ rfl 5 [(1, 1), (2, 2), (3, 3), (4, 4)] rfl (ob85 rfl rfl rfl rfl) .nil ?_
  refine awn_seq (x := codeOf Tryz.f85 [1,1,1,1,1,0]) (y := codeOf Tryz.f85 [1,1,1,1,1,1]) ?_
  refine pieceT hm pCall_sound noOO_sound 0 (r85d (flatD ss) (bytes d) (bytes (nodeS d)) n i ss.length 0 i) rfl trivial rfl ?_
  refine awn_block (c := codeOf Tryz.f85 [1,1,1,1,1,0,1,0]) (awn_loop (c := codeOf Tryz.f85 [1,1,1,1,1,0,1,0,0])
    (fun k T H D => ∃ (p m q c : Nat) (g : List Int), m = k ∧ 1 ≤ m ∧ m ≤ 63 ∧ m ≤ q + 1 ∧ p < m ∧ c + ndS q p m = ndS n i n ∧ c ≤ ss.length ∧ g.length = 32 ∧ T = T85b c p m ∧ H = H85b (flatD ss) (bytes d) (bytes g) i n ss.length ∧ D = [])
    n ⟨_, _, _, .refl _ _ _ _ _, i, n, n, 0, nodeS d, rfl, h1, hb, by omega, hi, by omega, by omega, nodeS_len d, rfl, rfl, rfl⟩ ?_)
  rintro k T H D ⟨p, m, q, c, g, rfl, hm1, hm63, hq, hp, hc, hcs, hg, rfl, rfl, rfl⟩
  refine awn_seq (x := codeOf Tryz.f85 [1,1,1,1,1,0,1,0,0,0]) (y := codeOf Tryz.f85 [1,1,1,1,1,0,1,0,0,1]) ?_
  refine pieceT hm pCall_sound noOO_sound 0 (r85e _ _ c p m) rfl trivial rfl ?_
  refine awn_cond (c := .tmp 38) (b := decide ((m : Int) > 1)) rfl rfl ?_
  by_cases h2 : m ≤ 1
  · rw [decide_eq_false (by omega)]
    refine awn_exit ?_
    rw [ndS_end h2] at hc
    refine pieceF hm pCall_sound forceO_sound (r85y (flatD ss) (bytes d) (bytes g) i n ss.length c p m (.bool false)) ⟨by rw [decide_eq_true (by omega)], trivial⟩ ?_
    intro e T H he hr hn hgt
    cases tag1 he
    exact ⟨.inr rfl, rfl, _, hr, rfl, keep1 (by rw [hn]; show 1 ≤ 5; omega) (hgt (0, _) (.head _))⟩
  · rw [decide_eq_true (by omega)]
    refine awn_skip ?_
    obtain ⟨q', rfl⟩ : ∃ q', q = q' + 1 := ⟨q - 1, by omega⟩
    rw [ndS, if_neg h2] at hc
    by_cases hbad : xo p < m ∧ c = ss.length
    · obtain ⟨hx, hce⟩ := hbad
      rcases xor_cases hp with ⟨hpar, hxe⟩ | ⟨hpar, hxe, hxl⟩
      · have hB : B85 p false := by rw [B85, tm1]; congr 2; simp; omega
        have hw2 : IntKind.i64.wrap ((p : Int) + 1) = (p : Int) + 1 := wrapI (by omega) (by omega)
        refine pieceF hm pCall_sound (oo85x_sound _) (r85w (flatD ss) (bytes d) (bytes g) i n ss.length c p m (.bool true)) ⟨by rw [decide_eq_true (by omega)], by rw [hw2, decide_eq_true (by omega)], hB, trivial⟩ ?_
        intro e T H he hr hn hgt
        cases tag1 he
        exact ⟨.inr rfl, rfl, _, hr, rfl, keep1 (by rw [hn]; show 1 ≤ 5; omega) (hgt (0, _) (.head _))⟩
      · have hB : B85 p true := by rw [B85, tm1]; congr 2; simp; omega
        refine pieceF hm pCall_sound (oo85x_sound _) (r85x (flatD ss) (bytes d) (bytes g) i n ss.length c p m (.bool true)) ⟨by rw [decide_eq_true (by omega)], hB, trivial⟩ ?_
        intro e T H he hr hn hgt
        cases tag1 he
        exact ⟨.inr rfl, rfl, _, hr, rfl, keep1 (by rw [hn]; show 1 ≤ 5; omega) (hgt (0, _) (.head _))⟩
    refine round85 hs hg hp (by omega) hm63 (by omega) (fun hx => by
      apply Classical.byContradiction
      intro hcc
      exact hbad ⟨hx, by omega⟩) ?_
    rintro T H D ⟨c', g', hg', hcase, hN⟩
    rcases hcase with ⟨hx, rfl, s, hs', rfl⟩ | ⟨hx, rfl, rfl⟩
    · rw [if_pos hx] at hc
      have := (List.getElem?_eq_some_iff.1 hs').1
      exact ⟨(m + 1) / 2, by omega, _, _, _, hN, p / 2, (m + 1) / 2, q', c + 1, _, rfl, by omega, by omega, by omega, by omega, by omega, by omega, hg', rfl, rfl, rfl⟩
    · rw [if_neg hx] at hc
      exact ⟨(m + 1) / 2, by omega, _, _, _, hN, p / 2, (m + 1) / 2, q', _, _, rfl, by omega, by omega, by omega, by omega, by omega, by omega, hg', rfl, rfl, rfl⟩
end Go.Abs

namespace Go.Abs
open Go.Proofs
set_option maxRecDepth 1000000

abbrev pa (z : Int) (s : Value) : Value := .agg #[i64 z, i64 4, s]
abbrev D84z : Defs := [(135, [pt 2, pt 3])]
noncomputable def ooV (a b : Nat) (x : Bool) : OpO := orO (forceO Tryz.prog a (.bool x)) (forceO Tryz.prog b (.bool true))
theorem ooV_sound (a b : Nat) (x : Bool) : SoundO Tryz.prog (ooV a b x) := orO_sound forceO_sound forceO_sound
theorem r84v (f : Nat → Int) (z : Int) : (ex3 Tryz.prog pCall (ooV 22 29 true) 60 (codeOf Tryz.f84 []) ⟨⟨[dig (dgf f), pa z jk] ++ List.replicate 82 undef, ⟨0, []⟩, []⟩, True⟩).map (fin3 Tryz.prog Tryz.f84 [])
  = some (⟨1, some erP, 4, [], D84z⟩, some (Value.bool (decide (z < 0))) = some (Value.bool true) ∧ True) := by kernel_rfl
theorem r84u (f : Nat → Int) (z : Int) : (ex3 Tryz.prog pCall (ooV 22 29 false) 60 (codeOf Tryz.f84 []) ⟨⟨[dig (dgf f), pa z jk] ++ List.replicate 82 undef, ⟨0, []⟩, []⟩, True⟩).map (fin3 Tryz.prog Tryz.f84 [])
  = some (⟨1, some erP, 4, [], D84z⟩, some (Value.bool (decide (z ≥ 4))) = some (Value.bool true) ∧ some (Value.bool (decide (z < 0))) = some (Value.bool false) ∧ True) := by kernel_rfl
theorem r85v (f : Nat → Int) (z : Int) : (ex3 Tryz.prog pCall (ooV 21 28 true) 60 (codeOf Tryz.f85 []) ⟨⟨[dig (dgf f), pa z jk] ++ List.replicate 86 undef, ⟨0, []⟩, []⟩, True⟩).map (fin3 Tryz.prog Tryz.f85 [])
  = some (⟨1, some erP, 3, [], []⟩, some (Value.bool (decide (z < 0))) = some (Value.bool true) ∧ True) := by kernel_rfl
theorem r85u (f : Nat → Int) (z : Int) : (ex3 Tryz.prog pCall (ooV 21 28 false) 60 (codeOf Tryz.f85 []) ⟨⟨[dig (dgf f), pa z jk] ++ List.replicate 86 undef, ⟨0, []⟩, []⟩, True⟩).map (fin3 Tryz.prog Tryz.f85 [])
  = some (⟨1, some erP, 3, [], []⟩, some (Value.bool (decide (z ≥ 4))) = some (Value.bool true) ∧ some (Value.bool (decide (z < 0))) = some (Value.bool false) ∧ True) := by kernel_rfl
abbrev N84 (i : Nat) (f g : Nat → Int) : Prop := some (i64 (i : Int)) = some (i64 (i : Int)) ∧ some (i64 (i : Int)) = some (i64 (i : Int)) ∧ some (dig (dgf f)) = some (dig (dgf f)) ∧ ((dgf f).length = 32 ∧ dig (dgf f) = dig (dgf f) ∧ dgf g = nodeS (dgf f)) ∧ True
theorem cases4 {i : Nat} (h : i < 4) : i = 0 ∨ i = 1 ∨ i = 2 ∨ i = 3 := by omega
theorem r84n (i : Nat) (hi : i < 4) (f g : Nat → Int) : (ex3 Tryz.prog pCall (pureO Tryz.prog 131 (ndP (dgf f) (dgf g))) 60 (codeOf Tryz.f84 []) ⟨⟨[dig (dgf f), pa (i : Int) nilS] ++ List.replicate 82 undef, ⟨0, []⟩, []⟩, True⟩).map (fin3 Tryz.prog Tryz.f84 [])
  = some (⟨1, some erP, 5, [], D84z⟩, N84 i f g) := by
  rcases cases4 hi with rfl | rfl | rfl | rfl
  · kernel_rfl
  · kernel_rfl
  · kernel_rfl
  · kernel_rfl
theorem r84m (i : Nat) (hi : i < 4) (f g : Nat → Int) : (ex3 Tryz.prog pCall (pureO Tryz.prog 131 (ndP (dgf f) (dgf g))) 60 (codeOf Tryz.f84 []) ⟨⟨[dig (dgf f), pa (i : Int) anE] ++ List.replicate 82 undef, ⟨0, []⟩, []⟩, True⟩).map (fin3 Tryz.prog Tryz.f84 [])
  = some (⟨1, some erP, 5, [], D84z⟩, N84 i f g) := by
  rcases cases4 hi with rfl | rfl | rfl | rfl
  · kernel_rfl
  · kernel_rfl
  · kernel_rfl
  · kernel_rfl
theorem r85n (i : Nat) (hi : i < 4) (f g : Nat → Int) : (ex3 Tryz.prog pCall (callO Tryz.prog (oneC 80 (nd1 (dgf f) (dgf g)))) 60 (codeOf Tryz.f85 []) ⟨⟨[dig (dgf f), pa (i : Int) nilS] ++ List.replicate 86 undef, ⟨0, []⟩, []⟩, True⟩).map (fin3 Tryz.prog Tryz.f85 [])
  = some (⟨1, some erP, 4, [], []⟩, ((dgf f).length = 32 ∧ dig (dgf f) = dig (dgf f) ∧ dgf g = nodeS (dgf f)) ∧ True) := by
  rcases cases4 hi with rfl | rfl | rfl | rfl
  · kernel_rfl
  · kernel_rfl
  · kernel_rfl
  · kernel_rfl
theorem r85m (i : Nat) (hi : i < 4) (f g : Nat → Int) : (ex3 Tryz.prog pCall (callO Tryz.prog (oneC 80 (nd1 (dgf f) (dgf g)))) 60 (codeOf Tryz.f85 []) ⟨⟨[dig (dgf f), pa (i : Int) anE] ++ List.replicate 86 undef, ⟨0, []⟩, []⟩, True⟩).map (fin3 Tryz.prog Tryz.f85 [])
  = some (⟨1, some erP, 4, [], []⟩, ((dgf f).length = 32 ∧ dig (dgf f) = dig (dgf f) ∧ dgf g = nodeS (dgf f)) ∧ True) := by
  rcases cases4 hi with rfl | rfl | rfl | rfl
  · kernel_rfl
  · kernel_rfl
  · kernel_rfl
  · kernel_rfl
/-- What is known of one of the two functions where a proof does not fit. -/
structure Ape (k : FuncId) : Prop where
  bad : ∀ (d : List Int) (z : Int), d.length = 32 → (z < 0 ∨ 4 ≤ z) → Does Tryz.prog k [dig d, pa z jk] ⟨0, []⟩ erP ⟨0, []⟩
  nil : ∀ (d : List Int) (i : Nat), d.length = 32 → i < 4 → Does Tryz.prog k [dig d, pa (i : Int) nilS] ⟨0, []⟩ erP ⟨0, []⟩
  emp : ∀ (d : List Int) (i : Nat), d.length = 32 → i < 4 → Does Tryz.prog k [dig d, pa (i : Int) anE] ⟨0, []⟩ erP ⟨0, []⟩
  row : ∀ (d : List Int) (i : Nat) (ss : List (List Int)), d.length = 32 → i < 4 → (∀ d ∈ ss, d.length = 32) → ss.length ≠ 2 → ss.length ≤ 100 → Does Tryz.prog k [dig d, pv i 4 (sl 0 ss.length)] ⟨1, [(0, .ro (flatD ss))]⟩ erP ⟨1, [(0, .ro (flatD ss))]⟩
theorem nd4 {i : Nat} (h : i < 4) : ndS 4 i 4 = 2 := by
  rcases cases4 h with rfl | rfl | rfl | rfl <;> decide
theorem ape_key {k : FuncId} {fn : Func} {c : Code} (hf : Tryz.prog.funcs[k]? = some fn) (hb : fn.body = some c) {N : Nat} (hN : fn.ntmps - 2 = N) {oo : OpO} (ho : SoundO Tryz.prog oo) {args : List Value} (ha : args.length = 2) {q : Nat} {D : Defs} {L : Prop} (hD : (D.all fun d => quietDefer Tryz.prog d.1 && callable Tryz.prog d.1) = true)
    (hr : (ex3 Tryz.prog pCall oo 60 c ⟨⟨args ++ List.replicate N undef, ⟨0, []⟩, []⟩, True⟩).map (fin3 Tryz.prog fn []) = some (⟨1, some erP, q, [], D⟩, L)) (hL : L) : Does Tryz.prog k args ⟨0, []⟩ erP ⟨0, []⟩ := by
  refine val_of_awp hf hb rt_c2 (awp_of_awn (n := 0) ?_ (Nat.le_refl _))
  rw [ha, hN]
  refine pieceF hm pCall_sound ho hr hL ?_
  intro e T H he hr hn hg
  cases tag1 he
  exact ⟨.inr rfl, hD, _, hr, rfl, keep0 _⟩
theorem ape84 : Ape 84 := by
  refine ⟨fun d z hd hz => ?_, fun d i hd hi => ?_, fun d i hd hi => ?_, fun d i ss hd hi h32 hne hl => does84e h32 hd (by omega) (by omega) hi (by rw [nd4 hi]; exact fun h => hne h.symm) hl⟩
  · have hf : dgf (fn d) = d := dgf_of hd
    by_cases h0 : z < 0
    · have hr := r84v (fn d) z
      rw [hf] at hr
      exact ape_key Tryz.func84 (c := codeOf Tryz.f84 []) rfl (N := 82) rfl (ooV_sound _ _ _) rfl rfl hr ⟨by rw [decide_eq_true h0], trivial⟩
    · have hr := r84u (fn d) z
      rw [hf] at hr
      exact ape_key Tryz.func84 (c := codeOf Tryz.f84 []) rfl (N := 82) rfl (ooV_sound _ _ _) rfl rfl hr ⟨by rw [decide_eq_true (by omega)], by rw [decide_eq_false h0], trivial⟩
  · have hr := r84n i hi (fn d) (fn (nodeS d))
    have hf : dgf (fn d) = d := dgf_of hd
    have hg : dgf (fn (nodeS d)) = nodeS d := dgf_of (nodeS_len d)
    rw [N84, hf, hg] at hr
    exact ape_key Tryz.func84 (c := codeOf Tryz.f84 []) rfl (N := 82) rfl (ndP131 _ _) rfl rfl hr ⟨rfl, rfl, rfl, ⟨hd, rfl, rfl⟩, trivial⟩
  · have hr := r84m i hi (fn d) (fn (nodeS d))
    have hf : dgf (fn d) = d := dgf_of hd
    have hg : dgf (fn (nodeS d)) = nodeS d := dgf_of (nodeS_len d)
    rw [N84, hf, hg] at hr
    exact ape_key Tryz.func84 (c := codeOf Tryz.f84 []) rfl (N := 82) rfl (ndP131 _ _) rfl rfl hr ⟨rfl, rfl, rfl, ⟨hd, rfl, rfl⟩, trivial⟩
theorem ape85 : Ape 85 := by
  refine ⟨fun d z hd hz => ?_, fun d i hd hi => ?_, fun d i hd hi => ?_, fun d i ss hd hi h32 hne hl => does85e h32 hd (by omega) (by omega) hi (by rw [nd4 hi]; exact fun h => hne h.symm) hl⟩
  · have hf : dgf (fn d) = d := dgf_of hd
    by_cases h0 : z < 0
    · have hr := r85v (fn d) z
      rw [hf] at hr
      exact ape_key Tryz.func85 (c := codeOf Tryz.f85 []) rfl (N := 86) rfl (ooV_sound _ _ _) rfl rfl hr ⟨by rw [decide_eq_true h0], trivial⟩
    · have hr := r85u (fn d) z
      rw [hf] at hr
      exact ape_key Tryz.func85 (c := codeOf Tryz.f85 []) rfl (N := 86) rfl (ooV_sound _ _ _) rfl rfl hr ⟨by rw [decide_eq_true (by omega)], by rw [decide_eq_false h0], trivial⟩
  · have hr := r85n i hi (fn d) (fn (nodeS d))
    have hf : dgf (fn d) = d := dgf_of hd
    have hg : dgf (fn (nodeS d)) = nodeS d := dgf_of (nodeS_len d)
    rw [hf, hg] at hr
    exact ape_key Tryz.func85 (c := codeOf Tryz.f85 []) rfl (N := 86) rfl (callO_sound (nd80 _ _)) rfl rfl hr ⟨⟨hd, rfl, rfl⟩, trivial⟩
  · have hr := r85m i hi (fn d) (fn (nodeS d))
    have hf : dgf (fn d) = d := dgf_of hd
    have hg : dgf (fn (nodeS d)) = nodeS d := dgf_of (nodeS_len d)
    rw [hf, hg] at hr
    exact ape_key Tryz.func85 (c := codeOf Tryz.f85 []) rfl (N := 86) rfl (callO_sound (nd80 _ _)) rfl rfl hr ⟨⟨hd, rfl, rfl⟩, trivial⟩
/-- A proof that does not fit, in each heap. -/
def NoFit (z : Int) (ss : List (List Int)) : Prop := (z < 0 ∨ 4 ≤ z) ∨ ss.length ≠ 2
theorem Ape.does {k : FuncId} (h : Ape k) {H : Heap} {a : Option Addr} {n c : Nat} {ss : List (List Int)} {d : List Int} {z : Int} (hd : d.length = 32) (hs : SLH H a n c ss.length (flatD ss)) (h32 : ∀ d ∈ ss, d.length = 32) (hl : ss.length ≤ 100) (hz : NoFit z ss) :
    Does Tryz.prog k [dig d, pa z (.slice a n c)] H erP H := by
  have im : ∀ (s s0 : Value), (∀ p : Part, RI p s s0) → Imp Tryz.prog [dig d, pa z s] H [dig d, pa z s0] ⟨0, []⟩ := fun s s0 hr =>
    imp_gen (fun _ => none) (fun _ _ h => nomatch h) (.cons (.closed (dig_c2 d)) (.cons (RI.agg (l := [i64 z, i64 4, s]) (m := [i64 z, i64 4, s0]) (.cons (.closed rfl) (.cons (.closed rfl) (.cons (hr _) .nil)))) .nil)) (fun p hp => by cases hp)
  by_cases hbad : z < 0 ∨ 4 ≤ z
  · exact frame_val (h.bad d z hd hbad) rt_c2 (im _ _ fun p => .junk)
  have hne : ss.length ≠ 2 := hz.resolve_left hbad
  obtain ⟨i, rfl⟩ : ∃ i : Nat, z = (i : Int) := ⟨z.toNat, by omega⟩
  have hi : i < 4 := by omega
  rcases hs with ⟨rfl | rfl, rfl, rfl, _⟩ | ⟨id, off, row, rfl, rfl, hr, h1, h2, h3⟩
  · exact frame_val (h.nil d i hd hi) rt_c2 (im _ _ fun p => .closed rfl)
  · refine frame_val (h.emp d i hd hi) rt_c2 (im _ _ fun p E u hu => ?_)
    cases hu with
    | anonE a c => exact .anonE a c
  · have hfl := flatD_len h32
    exact frame_val (h.row d i ss hd hi h32 hne hl) rt_c2 (imp_proof (r := [dig d]) (n := 4) dig1_c2 hr ⟨h32, rfl, by rw [← hfl]; exact h2, by rw [← hfl]; exact h1⟩)
end Go.Abs

namespace Go.Abs
open Go.Proofs
set_option maxRecDepth 1000000

structure ErC (d : List Int) (ss : List (List Int)) (v : Value) (z b : Int) (a : Option Addr) (n c : Nat) (H : Heap) : Prop where
  hd : d.length = 32
  hv : v = dig d
  hb : b = 4
  hs : SLH H a n c ss.length (flatD ss)
  h32 : ∀ d ∈ ss, d.length = 32
  hl : ss.length ≤ 100
  hz : NoFit z ss
def erG (d : List Int) (ss : List (List Int)) : List Value → Heap → Option CallR := fun args H => match args with
  | [v, .agg ⟨[.int .i64 z, .int .i64 b, .slice a n c]⟩] => some (.same erP (ErC d ss v z b a n c H))
  | _ => none
theorem erG_sound {k : FuncId} (h : Ape k) (d : List Int) (ss : List (List Int)) : SoundC Tryz.prog (oneC k (erG d ss)) := oneC_sound fun args H r hr => by
  unfold erG at hr
  split at hr
  case h_2 => cases hr
  cases hr
  rintro ⟨h1, rfl, rfl, h4, h5, h6, h7⟩
  exact h.does h1 h4 h5 h6 h7
theorem r44e (r d : Nat → Int) (z : Int) (a : Option Addr) (n c : Nat) (o : AObj) (ss : List (List Int)) : (ex3 Tryz.prog pCall (callO Tryz.prog (oneC 84 (erG (dgf d) ss))) 60 (codeOf Tryz.f44 []) ⟨⟨[dig (dgf r), dig (dgf d), pa z (.slice a n c)] ++ List.replicate 19 undef, ⟨1, [(0, o)]⟩, []⟩, True⟩).map (fin3 Tryz.prog Tryz.f44 [0])
  = some (⟨1, some (.bool false), 5, [o], []⟩, ErC (dgf d) ss (dig (dgf d)) z 4 a n c ⟨4, [(3, .cells [i64 z, i64 4, .slice a n c] 29), (2, .cells (bytes (dgf d)) 26), (1, .cells (bytes (dgf r)) 26), (0, o)]⟩ ∧ True) := by kernel_rfl
theorem r45e (r d : Nat → Int) (z : Int) (a : Option Addr) (n c : Nat) (o : AObj) (ss : List (List Int)) : (ex3 Tryz.prog pCall (callO Tryz.prog (oneC 85 (erG (dgf d) ss))) 60 (codeOf Tryz.f45 []) ⟨⟨[dig (dgf r), dig (dgf d), pa z (.slice a n c)] ++ List.replicate 19 undef, ⟨1, [(0, o)]⟩, []⟩, True⟩).map (fin3 Tryz.prog Tryz.f45 [0])
  = some (⟨1, some (.bool false), 5, [o], []⟩, ErC (dgf d) ss (dig (dgf d)) z 4 a n c ⟨4, [(3, .cells [i64 z, i64 4, .slice a n c] 29), (2, .cells (bytes (dgf d)) 26), (1, .cells (bytes (dgf r)) 26), (0, o)]⟩ ∧ True) := by kernel_rfl
theorem does44e {r d : List Int} {z : Int} {a : Option Addr} {n c : Nat} {o : AObj} {ss : List (List Int)} (hr : r.length = 32) (hd : d.length = 32) (hs : SL 0 a n c o ss.length (flatD ss)) (h32 : ∀ d ∈ ss, d.length = 32) (hl : ss.length ≤ 100) (hz : NoFit z ss) :
    Does Tryz.prog 44 [dig r, dig d, pa z (.slice a n c)] ⟨1, [(0, o)]⟩ (.bool false) ⟨1, [(0, o)]⟩ := by
  refine val_of_awp Tryz.func44 (c := codeOf Tryz.f44 []) rfl rfl (awp_of_awn (n := 1) ?_ (Nat.le_refl _))
  have hrr := r44e (fn r) (fn d) z a n c o ss
  rw [show dgf (fn d) = d from dgf_of hd, show dgf (fn r) = r from dgf_of hr] at hrr
  refine pieceF hm pCall_sound (callO_sound (erG_sound ape84 _ _)) hrr ⟨⟨hd, rfl, rfl, hs.slh rfl, h32, hl, hz⟩, trivial⟩ ?_
  intro e T H he hr hn hg
  cases tag1 he
  exact ⟨.inr rfl, rfl, _, hr, rfl, keep1 (by rw [hn]; show 1 ≤ 5; omega) (hg (0, _) (.head _))⟩
theorem does45e {r d : List Int} {z : Int} {a : Option Addr} {n c : Nat} {o : AObj} {ss : List (List Int)} (hr : r.length = 32) (hd : d.length = 32) (hs : SL 0 a n c o ss.length (flatD ss)) (h32 : ∀ d ∈ ss, d.length = 32) (hl : ss.length ≤ 100) (hz : NoFit z ss) :
    Does Tryz.prog 45 [dig r, dig d, pa z (.slice a n c)] ⟨1, [(0, o)]⟩ (.bool false) ⟨1, [(0, o)]⟩ := by
  refine val_of_awp Tryz.func45 (c := codeOf Tryz.f45 []) rfl rfl (awp_of_awn (n := 1) ?_ (Nat.le_refl _))
  have hrr := r45e (fn r) (fn d) z a n c o ss
  rw [show dgf (fn d) = d from dgf_of hd, show dgf (fn r) = r from dgf_of hr] at hrr
  refine pieceF hm pCall_sound (callO_sound (erG_sound ape85 _ _)) hrr ⟨⟨hd, rfl, rfl, hs.slh rfl, h32, hl, hz⟩, trivial⟩ ?_
  intro e T H he hr hn hg
  cases tag1 he
  exact ⟨.inr rfl, rfl, _, hr, rfl, keep1 (by rw [hn]; show 1 ≤ 5; omega) (hg (0, _) (.head _))⟩
/-- Whether a proof of four leaves is accepted. -/
def vrS (z : Int) (ss : List (List Int)) (d r : List Int) : Bool := decide (0 ≤ z ∧ z < 4 ∧ ss.length = 2 ∧ applyS z.toNat 4 ss d = r)
theorem vrA_key {k : FuncId} (hG : ∀ (i n : Nat) (ss : List (List Int)) (d r : List Int) (bb : Bool), SoundC Tryz.prog (oneC k (vfG i n ss d r bb)))
    (hE : ∀ {r d : List Int} {z : Int} {a : Option Addr} {n c : Nat} {o : AObj} {ss : List (List Int)}, r.length = 32 → d.length = 32 → SL 0 a n c o ss.length (flatD ss) → (∀ d ∈ ss, d.length = 32) → ss.length ≤ 100 → NoFit z ss → Does Tryz.prog k [dig r, dig d, pa z (.slice a n c)] ⟨1, [(0, o)]⟩ (.bool false) ⟨1, [(0, o)]⟩)
    {H : Heap} {a : Option Addr} {n c : Nat} {ss : List (List Int)} {r d : List Int} {z : Int} (hr : r.length = 32) (hd : d.length = 32) (hs : SLH H a n c ss.length (flatD ss)) (h32 : ∀ d ∈ ss, d.length = 32) (hl : ss.length ≤ 100) :
    Does Tryz.prog k [dig r, dig d, pa z (.slice a n c)] H (.bool (vrS z ss d r)) H := by
  by_cases hz : NoFit z ss
  · have e : vrS z ss d r = false := by
      unfold vrS
      refine decide_eq_false fun h => ?_
      unfold NoFit at hz
      omega
    rw [e]
    obtain ⟨a0, c0, o, sj, h1, h2, h3⟩ := slh_sl hs 0
    refine frame_val (hE hr hd h1 h32 hl hz) rfl (imp_gen (fun j => if j = 0 then sj else none) ?_ (.cons (.closed (dig_c2 r)) (.cons (.closed (dig_c2 d)) (.cons (RI.agg (l := [i64 z, i64 4, .slice a n c]) (m := [i64 z, i64 4, .slice a0 n c0]) (.cons (.closed rfl) (.cons (.closed rfl) (.cons (h2 _ (if_pos rfl)) .nil)))) .nil))) ?_)
    · intro j x hj
      by_cases h0 : j = 0
      · omega
      · simp [h0] at hj
    · intro p hp
      cases List.mem_singleton.1 hp
      exact h3 (fun j => if j = 0 then sj else none) rfl
  · unfold NoFit at hz
    obtain ⟨i, rfl⟩ : ∃ i : Nat, z = (i : Int) := ⟨z.toNat, by omega⟩
    have hi : i < 4 := by omega
    have hl2 : ss.length = 2 := by omega
    have e : vrS (i : Int) ss d r = decide (applyS i 4 ss d = r) := by
      unfold vrS
      rw [Int.toNat_natCast]
      exact decide_eq_decide.2 ⟨fun h => h.2.2.2, fun h => ⟨by omega, by omega, hl2, h⟩⟩
    rw [e]
    have hfl := flatD_len h32
    rcases hs with ⟨_, _, _, h0⟩ | ⟨id, off, row, rfl, rfl, hrw, h1, h2, h3⟩
    · omega
    · refine (hG i 4 ss d r (decide (applyS i 4 ss d = r))).same k _ H _ _ ?_ (⟨hr, rfl, ⟨hd, rfl, ⟨h32, rfl, by rw [← hfl]; exact h2, by rw [← hfl]; exact h1⟩, rfl, rfl, by omega, by omega, hi, by rw [nd4 hi]; exact hl2.symm, hl, rfl⟩, decide_eq_true_iff⟩ : VfC i 4 ss d r (decide (applyS i 4 ss d = r)) (dig r) (dig d) (i : Int) 4 ss.length off row)
      have hv : vfG i 4 ss d r (decide (applyS i 4 ss d = r)) [dig r, dig d, pa (i : Int) (.slice (some ⟨id, off, none⟩) ss.length c)] H = (match H.row id with
        | some cs => some (.same (.bool (decide (applyS i 4 ss d = r))) (VfC i 4 ss d r (decide (applyS i 4 ss d = r)) (dig r) (dig d) (i : Int) 4 ss.length off cs))
        | none => none) := rfl
      rw [hrw] at hv
      show (bif Nat.beq k k then vfG i 4 ss d r (decide (applyS i 4 ss d = r)) [dig r, dig d, pa (i : Int) (.slice (some ⟨id, off, none⟩) ss.length c)] H else none) = _
      rw [Nat.beq_refl, cond_true, hv]
/-- Verify of four leaves, by contract. -/
structure VrC (z : Int) (ss : List (List Int)) (d r : List Int) (bb : Bool) (v v' : Value) (z' b : Int) (a : Option Addr) (n c : Nat) (H : Heap) : Prop where
  hr : r.length = 32
  hv : v = dig r
  hd : d.length = 32
  hv' : v' = dig d
  hz : z' = z
  hb : b = 4
  hs : SLH H a n c ss.length (flatD ss)
  h32 : ∀ d ∈ ss, d.length = 32
  hl : ss.length ≤ 100
  hbb : bb = vrS z ss d r
def vrG (z : Int) (ss : List (List Int)) (d r : List Int) (bb : Bool) : List Value → Heap → Option CallR := fun args H => match args with
  | [v, v', .agg ⟨[.int .i64 z', .int .i64 b, .slice a n c]⟩] => some (.same (.bool bb) (VrC z ss d r bb v v' z' b a n c H))
  | _ => none
theorem vr44 (z : Int) (ss : List (List Int)) (d r : List Int) (bb : Bool) : SoundC Tryz.prog (oneC 44 (vrG z ss d r bb)) := oneC_sound fun args H q h => by
  unfold vrG at h
  split at h
  case h_2 => cases h
  cases h
  rintro ⟨h1, rfl, h3, rfl, rfl, rfl, h7, h8, h9, rfl⟩
  exact vrA_key vf44 (fun a b c d e f => does44e a b c d e f) h1 h3 h7 h8 h9
theorem vr45 (z : Int) (ss : List (List Int)) (d r : List Int) (bb : Bool) : SoundC Tryz.prog (oneC 45 (vrG z ss d r bb)) := oneC_sound fun args H q h => by
  unfold vrG at h
  split at h
  case h_2 => cases h
  cases h
  rintro ⟨h1, rfl, h3, rfl, rfl, rfl, h7, h8, h9, rfl⟩
  exact vrA_key vf45 (fun a b c d e f => does45e a b c d e f) h1 h3 h7 h8 h9
end Go.Abs

namespace Go.Abs
open Go.Proofs
set_option maxRecDepth 1000000

/-- The ends that the parts of a signature lead to. -/
def lastS (ps : List (List Int)) (bs : List Int) : List (List Int) := (List.range 35).map fun j => lnkS (15 - (digS bs).getD j 0) (ps.getD j [])
theorem lastS_len (ps : List (List Int)) (bs : List Int) : (lastS ps bs).length = 35 := by simp [lastS]
theorem lastS_32 {ps : List (List Int)} {bs : List Int} (h : ∀ d ∈ ps, d.length = 32) (hl : ps.length = 35) : ∀ d ∈ lastS ps bs, d.length = 32 := by
  intro d hd
  obtain ⟨j, hj, rfl⟩ := List.mem_map.1 hd
  exact lnkS_len _ (getD_32 h (i := j) (by have := List.mem_range.1 hj; omega)).1
theorem lastS_at {ps : List (List Int)} {bs : List Int} {c : Nat} (hc : c < 35) : (lastS ps bs)[c]? = some (lnkS (15 - (digS bs).getD c 0) (ps.getD c [])) := by simp [lastS, hc]
abbrev sgW (si : Int) (p : Value) (pi pc : Int) (w : Value) : List Value := [i64 si, p, i64 pi, i64 pc, w]
abbrev h57 (o0 o3 o4 : AObj) : Heap := ⟨3, [(0, o0), (1, o3), (2, o4)]⟩
-- refused at once
theorem r57a (o0 o3 o4 : AObj) (r : Nat → Int) (n : Nat) (si pi pc : Int) (a4 : Option Addr) (n4 c4 : Nat) (w : Value) : (ex3 Tryz.prog pCall (forceO Tryz.prog 13 (.bool true)) 60 (codeOf Tryz.f57 []) ⟨⟨[dig (dgf r), sl 0 n, .agg (sgW si (.slice a4 n4 c4) pi pc w).toArray] ++ List.replicate 35 undef, h57 o0 o3 o4, []⟩, True⟩).map (fin3 Tryz.prog Tryz.f57 [0,1,2])
  = some (⟨1, some (.bool false), 6, [o0, o3, o4], [(97, [pt 5])]⟩, some (Value.bool ((n4 : Int) != 35)) = some (Value.bool true) ∧ True) := by kernel_rfl
theorem r57b (o0 o3 o4 : AObj) (r : Nat → Int) (n : Nat) (si pi pc : Int) (a4 : Option Addr) (n4 c4 : Nat) (w : Value) : (ex3 Tryz.prog pCall (orO (forceO Tryz.prog 13 (.bool false)) (forceO Tryz.prog 20 (.bool true))) 60 (codeOf Tryz.f57 []) ⟨⟨[dig (dgf r), sl 0 n, .agg (sgW si (.slice a4 n4 c4) pi pc w).toArray] ++ List.replicate 35 undef, h57 o0 o3 o4, []⟩, True⟩).map (fin3 Tryz.prog Tryz.f57 [0,1,2])
  = some (⟨1, some (.bool false), 6, [o0, o3, o4], [(97, [pt 5])]⟩, some (Value.bool (pi != si)) = some (Value.bool true) ∧ some (Value.bool ((n4 : Int) != 35)) = some (Value.bool false) ∧ True) := by kernel_rfl
theorem r57c (o0 o3 o4 : AObj) (r : Nat → Int) (n : Nat) (si pi pc : Int) (a4 : Option Addr) (n4 c4 : Nat) (w : Value) : (ex3 Tryz.prog pCall (orO (forceO Tryz.prog 13 (.bool false)) (orO (forceO Tryz.prog 20 (.bool false)) (forceO Tryz.prog 26 (.bool true)))) 60 (codeOf Tryz.f57 []) ⟨⟨[dig (dgf r), sl 0 n, .agg (sgW si (.slice a4 n4 c4) pi pc w).toArray] ++ List.replicate 35 undef, h57 o0 o3 o4, []⟩, True⟩).map (fin3 Tryz.prog Tryz.f57 [0,1,2])
  = some (⟨1, some (.bool false), 6, [o0, o3, o4], [(97, [pt 5])]⟩, some (Value.bool (pc != 4)) = some (Value.bool true) ∧ some (Value.bool (pi != si)) = some (Value.bool false) ∧ some (Value.bool ((n4 : Int) != 35)) = some (Value.bool false) ∧ True) := by kernel_rfl
theorem r58a (o0 o3 o4 : AObj) (r : Nat → Int) (n : Nat) (si pi pc : Int) (a4 : Option Addr) (n4 c4 : Nat) (w : Value) : (ex3 Tryz.prog pCall (forceO Tryz.prog 13 (.bool true)) 60 (codeOf Tryz.f58 []) ⟨⟨[dig (dgf r), sl 0 n, .agg (sgW si (.slice a4 n4 c4) pi pc w).toArray] ++ List.replicate 51 undef, h57 o0 o3 o4, []⟩, True⟩).map (fin3 Tryz.prog Tryz.f58 [0,1,2])
  = some (⟨1, some (.bool false), 5, [o0, o3, o4], []⟩, some (Value.bool ((n4 : Int) != 35)) = some (Value.bool true) ∧ True) := by kernel_rfl
theorem r58b (o0 o3 o4 : AObj) (r : Nat → Int) (n : Nat) (si pi pc : Int) (a4 : Option Addr) (n4 c4 : Nat) (w : Value) : (ex3 Tryz.prog pCall (orO (forceO Tryz.prog 13 (.bool false)) (forceO Tryz.prog 20 (.bool true))) 60 (codeOf Tryz.f58 []) ⟨⟨[dig (dgf r), sl 0 n, .agg (sgW si (.slice a4 n4 c4) pi pc w).toArray] ++ List.replicate 51 undef, h57 o0 o3 o4, []⟩, True⟩).map (fin3 Tryz.prog Tryz.f58 [0,1,2])
  = some (⟨1, some (.bool false), 5, [o0, o3, o4], []⟩, some (Value.bool (pi != si)) = some (Value.bool true) ∧ some (Value.bool ((n4 : Int) != 35)) = some (Value.bool false) ∧ True) := by kernel_rfl
theorem r58c (o0 o3 o4 : AObj) (r : Nat → Int) (n : Nat) (si pi pc : Int) (a4 : Option Addr) (n4 c4 : Nat) (w : Value) : (ex3 Tryz.prog pCall (orO (forceO Tryz.prog 13 (.bool false)) (orO (forceO Tryz.prog 20 (.bool false)) (forceO Tryz.prog 26 (.bool true)))) 60 (codeOf Tryz.f58 []) ⟨⟨[dig (dgf r), sl 0 n, .agg (sgW si (.slice a4 n4 c4) pi pc w).toArray] ++ List.replicate 51 undef, h57 o0 o3 o4, []⟩, True⟩).map (fin3 Tryz.prog Tryz.f58 [0,1,2])
  = some (⟨1, some (.bool false), 5, [o0, o3, o4], []⟩, some (Value.bool (pc != 4)) = some (Value.bool true) ∧ some (Value.bool (pi != si)) = some (Value.bool false) ∧ some (Value.bool ((n4 : Int) != 35)) = some (Value.bool false) ∧ True) := by kernel_rfl
-- the program's, to its end
noncomputable def oo57 (bs : List Int) (ds : List Value) : OpO := orO (forceO Tryz.prog 20 (.bool false)) (callO Tryz.prog (oneC 87 (dg87 bs ds)))
abbrev D57 : Defs := [(97, [pt 5])]
abbrev l57 (cs qs : List Value) (o4 : AObj) (r : List Value) (si : Int) (w : Value) (ds : List Value) : List (Nat × AObj) := [(0, .ro cs), (1, .ro qs), (2, o4), (3, .cells r 26), (4, .cells (sgW si (sl 1 35) si 4 w) 31), (5, .cells [.bool false] 4), (6, .cells ds 3), (7, .cells [dsl 6] 59)]
abbrev v57 (cs qs : List Value) (o4 : AObj) (r : List Value) (si : Int) (w : Value) (ds : List Value) : List AObj := [.ro cs, .ro qs, o4, .cells r 26, .cells (sgW si (sl 1 35) si 4 w) 31, .cells [.bool false] 4, .cells ds 3, .cells [dsl 6] 59]
theorem r57d (cs qs : List Value) (o4 : AObj) (r : Nat → Int) (n : Nat) (si : Int) (a5 : Option Addr) (n5 c5 : Nat) (bs : List Int) (ds : List Value) : (ex3 Tryz.prog pCall (oo57 bs ds) 60 (pre 3 (codeOf Tryz.f57 [])) ⟨⟨[dig (dgf r), sl 0 n, .agg (sgW si (sl 1 35) si 4 (.slice a5 n5 c5)).toArray] ++ List.replicate 35 undef, h57 (.ro cs) (.ro qs) o4, []⟩, True⟩).map (obs3 [3,5,6,7] [0,1,2,3,4,5,6,7])
  = some (⟨0, [pt 3, pt 4, pt 5, pt 7], 38, 8, v57 cs qs o4 (bytes (dgf r)) si (.slice a5 n5 c5) ds, D57⟩, DgC bs ds n 0 cs ∧ some (Value.bool (si != si)) = some (Value.bool false) ∧ True) := by kernel_rfl
abbrev cV : Value := clv 98 #[pt 4, pt 7]
theorem r88V (cs qs : List Value) (o4 : AObj) (r : List Value) (si : Int) (a5 : Option Addr) (n5 c5 : Nat) (ds zs : List Value) : (ex3 Tryz.prog pCall (mkG Tryz.prog 8 zs) 60 (pre 1 (codeOf Tryz.f88 [])) ⟨⟨[i64 35, cV] ++ List.replicate 19 undef, mkH 8 (l57 cs qs o4 r si (.slice a5 n5 c5) ds) [], []⟩, True⟩).map (obs3 [0,1,5] [0,1,2,3,4,5,6,7,8])
  = some (⟨0, [i64 35, cV, sl 8 35], 21, 9, v57 cs qs o4 r si (.slice a5 n5 c5) ds ++ [.grow zs 26], []⟩, MkC 32 32 zD.toArray 35 35 zs ∧ True) := by kernel_rfl
noncomputable def ooW (x y : Nat → Int) (d e : Nat) : OpO := orO (callO Tryz.prog (inC Tryz.prog pCall (orO (callO Tryz.prog (oneC 90 (lkG (dgf x) e (dgf y)))) (orO (idxO Tryz.prog 8) (orO (ldO Tryz.prog 9 (dig (dgf x))) (orO (idxO Tryz.prog 12) (ldO Tryz.prog 13 (i64 (d : Int))))))) 60 [98])) (orO (idxO Tryz.prog 18) (stO Tryz.prog 18))
theorem ooW_sound (x y : Nat → Int) (d e : Nat) : SoundO Tryz.prog (ooW x y d e) := orO_sound (callO_sound (inC_sound hm pCall_sound (orO_sound (callO_sound (lk90 _ _ _)) (orO_sound idxO_sound (orO_sound ldO_sound (orO_sound idxO_sound ldO_sound)))))) (orO_sound idxO_sound stO_sound)
theorem r88W (cs qs : List Value) (o4 : AObj) (r : List Value) (si : Int) (a5 : Option Addr) (n5 c5 : Nat) (ds zs : List Value) (x y : Nat → Int) (c d e : Nat) (b : Value) : (ex3 Tryz.prog pCall (ooW x y d e) 60 (codeOf Tryz.f88 [1,1,0,1,0,0,1,1]) ⟨⟨T88b 35 cV 8 c b, mkH 9 (l57 cs qs o4 r si (.slice a5 n5 c5) ds ++ [(8, .grow zs 26)]) [], []⟩, True⟩).map (obs3 [1,5,9,10] [0,1,2,3,4,5,6,7,8])
  = some (⟨0, [cV, sl 8 35, i64 35, cw c], 21, 10, v57 cs qs o4 r si (.slice a5 n5 c5) ds ++ [.grow (splice zs (0 + c * 32) (bytes (dgf y))) 26], []⟩,
    StC (bytes (dgf y)) 32 (0 + c * 32) zs ∧ ((0 : Int) ≤ (c : Int) ∧ (c : Int) < 35) ∧ (LkC (dgf x) e (dgf y) (dig (dgf x)) (IntKind.i64.wrap (15 - (d : Int))) ∧ LdC Tryz.prog 3 (some ds) (0 + c * 1) (i64 (d : Int)) ∧ ((0 : Int) ≤ (c : Int) ∧ (c : Int) < 35) ∧ LdC Tryz.prog 26 (some qs) (0 + c * 32) (dig (dgf x)) ∧ ((0 : Int) ≤ (c : Int) ∧ (c : Int) < 35) ∧ True) ∧ True) := by kernel_rfl
end Go.Abs

