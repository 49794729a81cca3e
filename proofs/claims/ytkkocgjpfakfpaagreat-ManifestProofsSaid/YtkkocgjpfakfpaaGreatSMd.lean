/- A part of the proof that the law ManifestProofs returns true at every input and leaves its arguments as they were; no condition. -/
import Derived.Test.YtkkocgjpfakfpaaGreatSMc
set_option linter.unusedSimpArgs false
set_option linter.unusedVariables false
namespace Go.Abs
open Go.Proofs
set_option maxRecDepth 1000000

/-- A place within an array. -/
def idxA (P : Program) (d : Nat) : OpO := fun o ρ _ => match o.dst with
  | some d' => bif Nat.beq d' d then (match o.op with
    | .indexAddr t x i => match P.underlying t, ρ x, ρ i with
      | some (.array n e), .pointer (some ⟨id, off, none⟩), .int _ k => match sizeT P e with
        | some s => some (.pure (.pointer (some ⟨id, off + k.toNat * s, none⟩)) (0 ≤ k ∧ k < (n : Int)))
        | none => none
      | _, _, _ => none
    | _ => none) else none
  | none => none
theorem idxA_sound {P : Program} {d : Nat} : SoundO P (idxA P d) := by
  have key : ∀ o ρ H r, idxA P d o ρ H = some r → ∃ v c, r = .pure v c ∧ (c → SPure P o ρ v) := by
    intro o ρ H r h
    unfold idxA at h
    split at h
    case h_2 => cases h
    obtain ⟨_, h⟩ := cond_opt h
    split at h
    case h_2 => cases h
    rename_i t x i ho
    split at h
    case h_2 => cases h
    rename_i n e id off k0 k hu hv hi
    split at h
    case h_2 => cases h
    rename_i s hs
    cases h
    refine ⟨_, _, rfl, fun ⟨c1, c2⟩ H2 => .of_ev ?_⟩
    obtain ⟨dst, op, type, pos, after, guard⟩ := o
    simp only at ho
    subst ho
    simp only [evR, evQ, hu, hv, hi, hs, decide_eq_true c1, decide_eq_true c2, Bool.and_self, cond_true, Option.map_some]
  refine ⟨fun o ρ H v ob c h => ?_, fun o ρ H v c h => ?_, fun o ρ H v c h => ?_, fun o ρ H v c h => ?_, fun o ρ H v H' c h => ?_⟩
  · obtain ⟨_, _, h, k⟩ := key _ _ _ _ h; cases h
  · obtain ⟨_, _, h, k⟩ := key _ _ _ _ h; cases h
  · obtain ⟨_, _, h, k⟩ := key _ _ _ _ h; cases h; exact k
  · obtain ⟨_, _, h, k⟩ := key _ _ _ _ h; cases h
  · obtain ⟨_, _, h, k⟩ := key _ _ _ _ h; cases h

-- lines proved
theorem rl_c2 {r : List Int} {l : Ln} : ∀ v ∈ [dig r, .agg l.cells.toArray], c2 v = true := fun v hv => by
  rcases List.mem_cons.1 hv with rfl | hv
  · exact dig_c2 r
  · cases List.mem_singleton.1 hv; exact l.c2
theorem leaf_len (l : Ln) : l.leaf.length = 32 := sumS_len _ _
noncomputable def oo18 (i n : Nat) (ss : List (List Int)) (l : Ln) (f g : Nat → Int) (b : Bool) : OpO := orO (callO Tryz.prog (oneC 32 (leafF l f))) (callO Tryz.prog (oneC 44 (vfG i n ss (dgf f) (dgf g) b)))
theorem oo18_sound (i n : Nat) (ss : List (List Int)) (l : Ln) (f g : Nat → Int) (b : Bool) : SoundO Tryz.prog (oo18 i n ss l f g b) := orO_sound (callO_sound (leafF32 _ _)) (callO_sound (vf44 _ _ _ _ _ _))
theorem r18 (cs : List Value) (l : Ln) (f g : Nat → Int) (n i k : Nat) (ss : List (List Int)) (b : Bool) : (ex3 Tryz.prog pCall (oo18 i n ss l f g b) 60 (codeOf Tryz.f18 []) ⟨⟨[dig (dgf g), .agg l.cells.toArray, pv i n (sl 0 k)] ++ List.replicate 10 undef, ⟨1, [(0, .ro cs)]⟩, []⟩, True⟩).map (fin3 Tryz.prog Tryz.f18 [0])
  = some (⟨1, some (.bool b), 5, [.ro cs], [(43, [pt 4])]⟩, VfC i n ss (dgf f) (dgf g) b (dig (dgf g)) (dig (dgf f)) (i : Int) (n : Int) k 0 cs ∧ LfC l f (.agg l.cells.toArray) ∧ True) := by kernel_rfl
theorem r18z (l : Ln) (f g : Nat → Int) : (ex3 Tryz.prog pCall (oo18 0 0 [] l f g true) 60 (codeOf Tryz.f18 []) ⟨⟨[dig (dgf g), .agg l.cells.toArray, pv 0 0 nilS] ++ List.replicate 10 undef, ⟨0, []⟩, []⟩, True⟩).map (fin3 Tryz.prog Tryz.f18 [])
  = some (⟨1, some (.bool false), 4, [], [(43, [pt 3])]⟩, ((dgf g).length = 32 ∧ (dgf f).length = 32 ∧ dig (dgf g) = dig (dgf g) ∧ dig (dgf f) = dig (dgf f)) ∧ LfC l f (.agg l.cells.toArray) ∧ True) := by kernel_rfl
theorem does18 {ss : List (List Int)} {r : List Int} {l : Ln} {i n : Nat} {b : Bool} (hs : ∀ d ∈ ss, d.length = 32) (hr : r.length = 32) (h1 : 1 ≤ n) (hb : n ≤ 63) (hi : i < n) (hnd : ndS n i n = ss.length) (hsl : ss.length ≤ 100) (hbb : b = true ↔ applyS i n ss l.leaf = r) :
    Does Tryz.prog 18 [dig r, .agg l.cells.toArray, pv i n (sl 0 ss.length)] ⟨1, [(0, .ro (flatD ss))]⟩ (.bool b) ⟨1, [(0, .ro (flatD ss))]⟩ := by
  refine val_of_awp Tryz.func18 (c := codeOf Tryz.f18 []) rfl rfl (awp_of_awn (n := 1) ?_ (Nat.le_refl _))
  have hrr := r18 (flatD ss) l (fn l.leaf) (fn r) n i ss.length ss b
  have hlf : dgf (fn l.leaf) = l.leaf := dgf_of (leaf_len l)
  rw [hlf, show dgf (fn r) = r from dgf_of hr] at hrr
  refine pieceF hm pCall_sound (oo18_sound _ _ _ _ _ _ _) hrr ⟨⟨hr, rfl, ⟨leaf_len l, rfl, sliC_self hs, rfl, rfl, h1, hb, hi, hnd, hsl, rfl⟩, hbb⟩, ⟨hlf, rfl⟩, trivial⟩ ?_
  intro e T H he hr hn hg
  cases tag1 he
  exact ⟨.inr rfl, rfl, _, hr, rfl, keep1 (by rw [hn]; show 1 ≤ 5; omega) (hg (0, _) (.head _))⟩
theorem does18z {r : List Int} {l : Ln} (hr : r.length = 32) (H : Heap) : Does Tryz.prog 18 [dig r, .agg l.cells.toArray, pv 0 0 nilS] H (.bool false) H := by
  refine frame_val (H' := ⟨0, []⟩) (val_of_awp Tryz.func18 (c := codeOf Tryz.f18 []) rfl rfl (awp_of_awn (n := 0) ?_ (Nat.le_refl _))) rfl (imp_zero (r := [dig r, .agg l.cells.toArray]) rl_c2)
  have hrr := r18z l (fn l.leaf) (fn r)
  have hlf : dgf (fn l.leaf) = l.leaf := dgf_of (leaf_len l)
  rw [hlf, show dgf (fn r) = r from dgf_of hr] at hrr
  refine pieceF hm pCall_sound (oo18_sound _ _ _ _ _ _ _) hrr ⟨⟨hr, leaf_len l, rfl, rfl⟩, ⟨hlf, rfl⟩, trivial⟩ ?_
  intro e T H he hr hn hg
  cases tag1 he
  exact ⟨.inr rfl, rfl, _, hr, rfl, keep0 _⟩
noncomputable def oo19 (i n : Nat) (ss : List (List Int)) (l : Ln) (f g : Nat → Int) (b : Bool) : OpO := orO (callO Tryz.prog (oneC 35 (leafF l f))) (callO Tryz.prog (oneC 45 (vfG i n ss (dgf f) (dgf g) b)))
theorem oo19_sound (i n : Nat) (ss : List (List Int)) (l : Ln) (f g : Nat → Int) (b : Bool) : SoundO Tryz.prog (oo19 i n ss l f g b) := orO_sound (callO_sound (leafF35 _ _)) (callO_sound (vf45 _ _ _ _ _ _))
theorem r19 (cs : List Value) (l : Ln) (f g : Nat → Int) (n i k : Nat) (ss : List (List Int)) (b : Bool) : (ex3 Tryz.prog pCall (oo19 i n ss l f g b) 60 (codeOf Tryz.f19 []) ⟨⟨[dig (dgf g), .agg l.cells.toArray, pv i n (sl 0 k)] ++ List.replicate 9 undef, ⟨1, [(0, .ro cs)]⟩, []⟩, True⟩).map (fin3 Tryz.prog Tryz.f19 [0])
  = some (⟨1, some (.bool b), 4, [.ro cs], []⟩, VfC i n ss (dgf f) (dgf g) b (dig (dgf g)) (dig (dgf f)) (i : Int) (n : Int) k 0 cs ∧ LfC l f (.agg l.cells.toArray) ∧ True) := by kernel_rfl
theorem r19z (l : Ln) (f g : Nat → Int) : (ex3 Tryz.prog pCall (oo19 0 0 [] l f g true) 60 (codeOf Tryz.f19 []) ⟨⟨[dig (dgf g), .agg l.cells.toArray, pv 0 0 nilS] ++ List.replicate 9 undef, ⟨0, []⟩, []⟩, True⟩).map (fin3 Tryz.prog Tryz.f19 [])
  = some (⟨1, some (.bool false), 3, [], []⟩, ((dgf g).length = 32 ∧ (dgf f).length = 32 ∧ dig (dgf g) = dig (dgf g) ∧ dig (dgf f) = dig (dgf f)) ∧ LfC l f (.agg l.cells.toArray) ∧ True) := by kernel_rfl
theorem does19 {ss : List (List Int)} {r : List Int} {l : Ln} {i n : Nat} {b : Bool} (hs : ∀ d ∈ ss, d.length = 32) (hr : r.length = 32) (h1 : 1 ≤ n) (hb : n ≤ 63) (hi : i < n) (hnd : ndS n i n = ss.length) (hsl : ss.length ≤ 100) (hbb : b = true ↔ applyS i n ss l.leaf = r) :
    Does Tryz.prog 19 [dig r, .agg l.cells.toArray, pv i n (sl 0 ss.length)] ⟨1, [(0, .ro (flatD ss))]⟩ (.bool b) ⟨1, [(0, .ro (flatD ss))]⟩ := by
  refine val_of_awp Tryz.func19 (c := codeOf Tryz.f19 []) rfl rfl (awp_of_awn (n := 1) ?_ (Nat.le_refl _))
  have hrr := r19 (flatD ss) l (fn l.leaf) (fn r) n i ss.length ss b
  have hlf : dgf (fn l.leaf) = l.leaf := dgf_of (leaf_len l)
  rw [hlf, show dgf (fn r) = r from dgf_of hr] at hrr
  refine pieceF hm pCall_sound (oo19_sound _ _ _ _ _ _ _) hrr ⟨⟨hr, rfl, ⟨leaf_len l, rfl, sliC_self hs, rfl, rfl, h1, hb, hi, hnd, hsl, rfl⟩, hbb⟩, ⟨hlf, rfl⟩, trivial⟩ ?_
  intro e T H he hr hn hg
  cases tag1 he
  exact ⟨.inr rfl, rfl, _, hr, rfl, keep1 (by rw [hn]; show 1 ≤ 4; omega) (hg (0, _) (.head _))⟩
theorem does19z {r : List Int} {l : Ln} (hr : r.length = 32) (H : Heap) : Does Tryz.prog 19 [dig r, .agg l.cells.toArray, pv 0 0 nilS] H (.bool false) H := by
  refine frame_val (H' := ⟨0, []⟩) (val_of_awp Tryz.func19 (c := codeOf Tryz.f19 []) rfl rfl (awp_of_awn (n := 0) ?_ (Nat.le_refl _))) rfl (imp_zero (r := [dig r, .agg l.cells.toArray]) rl_c2)
  have hrr := r19z l (fn l.leaf) (fn r)
  have hlf : dgf (fn l.leaf) = l.leaf := dgf_of (leaf_len l)
  rw [hlf, show dgf (fn r) = r from dgf_of hr] at hrr
  refine pieceF hm pCall_sound (oo19_sound _ _ _ _ _ _ _) hrr ⟨⟨hr, leaf_len l, rfl, rfl⟩, ⟨hlf, rfl⟩, trivial⟩ ?_
  intro e T H he hr hn hg
  cases tag1 he
  exact ⟨.inr rfl, rfl, _, hr, rfl, keep0 _⟩

/-- Lines proved, by contract. -/
structure PvC (i n : Nat) (ss : List (List Int)) (l : Ln) (r : List Int) (bb : Bool) (v v' : Value) (a b : Int) (k off : Nat) (cs : List Value) : Prop where
  hr : r.length = 32
  hv : v = dig r
  hl : v' = .agg l.cells.toArray
  hs : SliC ss k off cs
  ha : a = (i : Int)
  hb : b = (n : Int)
  n1 : 1 ≤ n
  n2 : n ≤ 63
  hi : i < n
  nd : ndS n i n = ss.length
  hsl : ss.length ≤ 100
  hbb : bb = true ↔ applyS i n ss l.leaf = r
def pvG (i n : Nat) (ss : List (List Int)) (l : Ln) (r : List Int) (bb : Bool) : List Value → Heap → Option CallR := fun args H => match args with
  | [v, v', .agg ⟨[.int .i64 a, .int .i64 b, .slice (some ⟨id, off, none⟩) k _]⟩] => (match H.row id with
    | some cs => some (.same (.bool bb) (PvC i n ss l r bb v v' a b k off cs))
    | none => none)
  | [v, v', .agg ⟨[.int .i64 0, .int .i64 0, .slice none 0 0]⟩] => some (.same (.bool false) (r.length = 32 ∧ v = dig r ∧ v' = .agg l.cells.toArray))
  | _ => none
theorem pv18 (i n : Nat) (ss : List (List Int)) (l : Ln) (r : List Int) (bb : Bool) : SoundC Tryz.prog (oneC 18 (pvG i n ss l r bb)) := oneC_sound fun args H q h => by
  unfold pvG at h
  split at h
  · rename_i v v' a b id off k' c
    split at h
    case h_2 => cases h
    rename_i cs hr
    cases h
    intro hc
    obtain ⟨h0, rfl, rfl, h3, rfl, rfl, h6, h7, h8, h9, h10, hbb⟩ := hc
    exact frame_val (does18 h3.1 h0 h6 h7 h8 h9 h10 hbb) rfl (imp_proof (r := [dig r, .agg l.cells.toArray]) rl_c2 hr h3)
  · cases h
    rintro ⟨h1, rfl, rfl⟩
    exact does18z h1 H
  · cases h
theorem pv19 (i n : Nat) (ss : List (List Int)) (l : Ln) (r : List Int) (bb : Bool) : SoundC Tryz.prog (oneC 19 (pvG i n ss l r bb)) := oneC_sound fun args H q h => by
  unfold pvG at h
  split at h
  · rename_i v v' a b id off k' c
    split at h
    case h_2 => cases h
    rename_i cs hr
    cases h
    intro hc
    obtain ⟨h0, rfl, rfl, h3, rfl, rfl, h6, h7, h8, h9, h10, hbb⟩ := hc
    exact frame_val (does19 h3.1 h0 h6 h7 h8 h9 h10 hbb) rfl (imp_proof (r := [dig r, .agg l.cells.toArray]) rl_c2 hr h3)
  · cases h
    rintro ⟨h1, rfl, rfl⟩
    exact does19z h1 H
  · cases h

-- disclosed
noncomputable def oo15 (b1 b2 : Bool) (m : Mf) (ls : List Ln) (ss : List Sr) (xs : List Ct) (lv : List (List Int)) (j : Nat) (way : List (List Int)) : OpO := orO (forceO Tryz.prog 8 (.bool b1)) (orO (forceO Tryz.prog 14 (.bool b2)) (orO (callO Tryz.prog (oneC 10 (lvP m ls ss xs lv))) (orO (forceO Tryz.prog 20 (i64 (j : Int))) (callO Tryz.prog (oneC 41 (prG lv j way))))))
theorem oo15_sound (b1 b2 : Bool) (m : Mf) (ls : List Ln) (ss : List Sr) (xs : List Ct) (lv : List (List Int)) (j : Nat) (way : List (List Int)) : SoundO Tryz.prog (oo15 b1 b2 m ls ss xs lv j way) := orO_sound forceO_sound (orO_sound forceO_sound (orO_sound (callO_sound (lvP10 _ _ _ _ _)) (orO_sound forceO_sound (callO_sound (pr41 _ _ _)))))
theorem r15 (o0 o1 o2 : AObj) (m : Mf) (ls : List Ln) (ss : List Sr) (xs : List Ct) (lv way : List (List Int)) (z : Int) (j : Nat) : (ex3 Tryz.prog pCall (oo15 false false m ls ss xs lv j way) 60 (codeOf Tryz.f15 []) ⟨⟨[.agg (m.mc jks).toArray, i64 z] ++ List.replicate 22 undef, ⟨3, [(0, o0), (1, o1), (2, o2)]⟩, []⟩, True⟩).map (fin3 Tryz.prog Tryz.f15 [0,1,2,7])
  = some (⟨1, some (ctP (j : Int) (lv.length : Int) (sl 7 way.length)), 8, [o0, o1, o2, grD way], [(40, [pt 4, pt 5])]⟩,
    (SliC lv lv.length 0 (flatD lv) ∧ 2 ≤ lv.length ∧ lv.length ≤ 63 ∧ (j : Int) = (j : Int) ∧ j < lv.length ∧ way = wayS j lv) ∧ some (i64 (IntKind.i64.wrap (1 + z))) = some (i64 (j : Int)) ∧ (LvC m ls ss xs ⟨6, [(5, .cells [i64 0] 43), (4, z29), (3, .cells (m.mc jks) 33), (0, o0), (1, o1), (2, o2)]⟩ (.agg (m.mc jks).toArray) ∧ lv = leaves m ls ss xs) ∧ some (Value.bool (decide (z ≥ (m.n1 : Int)))) = some (Value.bool false) ∧ some (Value.bool (decide (z < 0))) = some (Value.bool false) ∧ True) := by kernel_rfl
theorem r15y (o0 o1 o2 : AObj) (m : Mf) (z : Int) : (ex3 Tryz.prog pCall (oo15 true false m [] [] [] [] 0 []) 60 (codeOf Tryz.f15 []) ⟨⟨[.agg (m.mc jks).toArray, i64 z] ++ List.replicate 22 undef, ⟨3, [(0, o0), (1, o1), (2, o2)]⟩, []⟩, True⟩).map (fin3 Tryz.prog Tryz.f15 [0,1,2])
  = some (⟨1, some zpV, 6, [o0, o1, o2], [(40, [pt 4, pt 5])]⟩, some (Value.bool (decide (z < 0))) = some (Value.bool true) ∧ True) := by kernel_rfl
theorem r15z (o0 o1 o2 : AObj) (m : Mf) (z : Int) : (ex3 Tryz.prog pCall (oo15 false true m [] [] [] [] 0 []) 60 (codeOf Tryz.f15 []) ⟨⟨[.agg (m.mc jks).toArray, i64 z] ++ List.replicate 22 undef, ⟨3, [(0, o0), (1, o1), (2, o2)]⟩, []⟩, True⟩).map (fin3 Tryz.prog Tryz.f15 [0,1,2])
  = some (⟨1, some zpV, 6, [o0, o1, o2], [(40, [pt 4, pt 5])]⟩, some (Value.bool (decide (z ≥ (m.n1 : Int)))) = some (Value.bool true) ∧ some (Value.bool (decide (z < 0))) = some (Value.bool false) ∧ True) := by kernel_rfl
theorem does15 {o0 o1 o2 : AObj} {m : Mf} {ls : List Ln} {ss : List Sr} {xs : List Ct} {j : Nat} (h : m.ok o0 o1 o2 ls ss xs) (hb : (leaves m ls ss xs).length ≤ 63) (hj : j < ls.length) :
    Does Tryz.prog 15 [.agg (m.mc jks).toArray, i64 (j : Int)] ⟨3, [(0, o0), (1, o1), (2, o2)]⟩ (ctP ((j + 1 : Nat) : Int) ((leaves m ls ss xs).length : Int) (sl 3 (wayS (j + 1) (leaves m ls ss xs)).length)) ((⟨3, [(0, o0), (1, o1), (2, o2)]⟩ : Heap).push (grD (wayS (j + 1) (leaves m ls ss xs)))) := by
  have hl := leaves_len m ls ss xs
  have hn1 := h.l.n
  refine ctx_of_awp (ct := ctP ((j + 1 : Nat) : Int) ((leaves m ls ss xs).length : Int)) (fun E s v' => ctP_inv _ _ E s v') (fun E s s' => ctP_mk _ _ E s s') (H := ⟨3, [(0, o0), (1, o1), (2, o2)]⟩) Tryz.func15 (c := codeOf Tryz.f15 []) rfl flatD_c2 (awp_of_awn (n := 3) ?_ (Nat.le_refl _))
  have hr := r15 o0 o1 o2 m ls ss xs (leaves m ls ss xs) (wayS (j + 1) (leaves m ls ss xs)) (j : Int) (j + 1)
  refine pieceF hm pCall_sound (oo15_sound _ _ _ _ _ _ _ _ _) hr ⟨⟨sliC_self leaves_32, by omega, hb, rfl, by omega, rfl⟩, by rw [wrap_1k (by omega)], ⟨Mf.lvc h rfl rfl rfl rfl, rfl⟩, by rw [decide_eq_false (by omega)], by rw [decide_eq_false (by omega)], trivial⟩ ?_
  intro e T H he hr hn hg
  cases tag1 he
  exact ⟨.inr rfl, rfl, _, hr, ⟨7, rfl, by show 3 ≤ 7; omega, hg (7, _) (.tail _ (.tail _ (.tail _ (.head _))))⟩, keep3 (by rw [hn]; show 3 ≤ 8; omega) (hg (0, _) (.head _)) (hg (1, _) (.tail _ (.head _))) (hg (2, _) (.tail _ (.tail _ (.head _))))⟩
theorem does15z {o0 o1 o2 : AObj} {m : Mf} {z : Int} (hz : z < 0 ∨ (m.n1 : Int) ≤ z) : Does Tryz.prog 15 [.agg (m.mc jks).toArray, i64 z] ⟨3, [(0, o0), (1, o1), (2, o2)]⟩ zpV ⟨3, [(0, o0), (1, o1), (2, o2)]⟩ := by
  refine cl_of_awp Tryz.func15 (c := codeOf Tryz.f15 []) rfl (fun E v' => zpV_inv) (fun E => zpV_mk) (awp_of_awn (n := 3) ?_ (Nat.le_refl _))
  by_cases h0 : z < 0
  · refine pieceF hm pCall_sound (oo15_sound _ _ _ _ _ _ _ _ _) (r15y o0 o1 o2 m z) ⟨by rw [decide_eq_true h0], trivial⟩ ?_
    intro e T H he hr hn hg
    cases tag1 he
    exact ⟨.inr rfl, rfl, _, hr, rfl, keep3 (by rw [hn]; show 3 ≤ 6; omega) (hg (0, _) (.head _)) (hg (1, _) (.tail _ (.head _))) (hg (2, _) (.tail _ (.tail _ (.head _))))⟩
  · refine pieceF hm pCall_sound (oo15_sound _ _ _ _ _ _ _ _ _) (r15z o0 o1 o2 m z) ⟨by rw [decide_eq_true (by omega)], by rw [decide_eq_false h0], trivial⟩ ?_
    intro e T H he hr hn hg
    cases tag1 he
    exact ⟨.inr rfl, rfl, _, hr, rfl, keep3 (by rw [hn]; show 3 ≤ 6; omega) (hg (0, _) (.head _)) (hg (1, _) (.tail _ (.head _))) (hg (2, _) (.tail _ (.tail _ (.head _))))⟩
noncomputable def oo16 (b1 b2 : Bool) (m : Mf) (ls : List Ln) (ss : List Sr) (xs : List Ct) (lv : List (List Int)) (j : Nat) (way : List (List Int)) : OpO := orO (forceO Tryz.prog 7 (.bool b1)) (orO (forceO Tryz.prog 13 (.bool b2)) (orO (callO Tryz.prog (oneC 11 (lvP m ls ss xs lv))) (orO (forceO Tryz.prog 19 (i64 (j : Int))) (callO Tryz.prog (oneC 42 (prG lv j way))))))
theorem oo16_sound (b1 b2 : Bool) (m : Mf) (ls : List Ln) (ss : List Sr) (xs : List Ct) (lv : List (List Int)) (j : Nat) (way : List (List Int)) : SoundO Tryz.prog (oo16 b1 b2 m ls ss xs lv j way) := orO_sound forceO_sound (orO_sound forceO_sound (orO_sound (callO_sound (lvP11 _ _ _ _ _)) (orO_sound forceO_sound (callO_sound (pr42 _ _ _)))))
theorem r16 (o0 o1 o2 : AObj) (m : Mf) (ls : List Ln) (ss : List Sr) (xs : List Ct) (lv way : List (List Int)) (z : Int) (j : Nat) : (ex3 Tryz.prog pCall (oo16 false false m ls ss xs lv j way) 60 (codeOf Tryz.f16 []) ⟨⟨[.agg (m.mc jks).toArray, i64 z] ++ List.replicate 21 undef, ⟨3, [(0, o0), (1, o1), (2, o2)]⟩, []⟩, True⟩).map (fin3 Tryz.prog Tryz.f16 [0,1,2,6])
  = some (⟨1, some (ctP (j : Int) (lv.length : Int) (sl 6 way.length)), 7, [o0, o1, o2, grD way], []⟩,
    (SliC lv lv.length 0 (flatD lv) ∧ 2 ≤ lv.length ∧ lv.length ≤ 63 ∧ (j : Int) = (j : Int) ∧ j < lv.length ∧ way = wayS j lv) ∧ some (i64 (IntKind.i64.wrap (1 + z))) = some (i64 (j : Int)) ∧ (LvC m ls ss xs ⟨5, [(4, z29), (3, .cells (m.mc jks) 33), (0, o0), (1, o1), (2, o2)]⟩ (.agg (m.mc jks).toArray) ∧ lv = leaves m ls ss xs) ∧ some (Value.bool (decide (z ≥ (m.n1 : Int)))) = some (Value.bool false) ∧ some (Value.bool (decide (z < 0))) = some (Value.bool false) ∧ True) := by kernel_rfl
theorem r16y (o0 o1 o2 : AObj) (m : Mf) (z : Int) : (ex3 Tryz.prog pCall (oo16 true false m [] [] [] [] 0 []) 60 (codeOf Tryz.f16 []) ⟨⟨[.agg (m.mc jks).toArray, i64 z] ++ List.replicate 21 undef, ⟨3, [(0, o0), (1, o1), (2, o2)]⟩, []⟩, True⟩).map (fin3 Tryz.prog Tryz.f16 [0,1,2])
  = some (⟨1, some zpV, 5, [o0, o1, o2], []⟩, some (Value.bool (decide (z < 0))) = some (Value.bool true) ∧ True) := by kernel_rfl
theorem r16z (o0 o1 o2 : AObj) (m : Mf) (z : Int) : (ex3 Tryz.prog pCall (oo16 false true m [] [] [] [] 0 []) 60 (codeOf Tryz.f16 []) ⟨⟨[.agg (m.mc jks).toArray, i64 z] ++ List.replicate 21 undef, ⟨3, [(0, o0), (1, o1), (2, o2)]⟩, []⟩, True⟩).map (fin3 Tryz.prog Tryz.f16 [0,1,2])
  = some (⟨1, some zpV, 5, [o0, o1, o2], []⟩, some (Value.bool (decide (z ≥ (m.n1 : Int)))) = some (Value.bool true) ∧ some (Value.bool (decide (z < 0))) = some (Value.bool false) ∧ True) := by kernel_rfl
theorem does16 {o0 o1 o2 : AObj} {m : Mf} {ls : List Ln} {ss : List Sr} {xs : List Ct} {j : Nat} (h : m.ok o0 o1 o2 ls ss xs) (hb : (leaves m ls ss xs).length ≤ 63) (hj : j < ls.length) :
    Does Tryz.prog 16 [.agg (m.mc jks).toArray, i64 (j : Int)] ⟨3, [(0, o0), (1, o1), (2, o2)]⟩ (ctP ((j + 1 : Nat) : Int) ((leaves m ls ss xs).length : Int) (sl 3 (wayS (j + 1) (leaves m ls ss xs)).length)) ((⟨3, [(0, o0), (1, o1), (2, o2)]⟩ : Heap).push (grD (wayS (j + 1) (leaves m ls ss xs)))) := by
  have hl := leaves_len m ls ss xs
  have hn1 := h.l.n
  refine ctx_of_awp (ct := ctP ((j + 1 : Nat) : Int) ((leaves m ls ss xs).length : Int)) (fun E s v' => ctP_inv _ _ E s v') (fun E s s' => ctP_mk _ _ E s s') (H := ⟨3, [(0, o0), (1, o1), (2, o2)]⟩) Tryz.func16 (c := codeOf Tryz.f16 []) rfl flatD_c2 (awp_of_awn (n := 3) ?_ (Nat.le_refl _))
  have hr := r16 o0 o1 o2 m ls ss xs (leaves m ls ss xs) (wayS (j + 1) (leaves m ls ss xs)) (j : Int) (j + 1)
  refine pieceF hm pCall_sound (oo16_sound _ _ _ _ _ _ _ _ _) hr ⟨⟨sliC_self leaves_32, by omega, hb, rfl, by omega, rfl⟩, by rw [wrap_1k (by omega)], ⟨Mf.lvc h rfl rfl rfl rfl, rfl⟩, by rw [decide_eq_false (by omega)], by rw [decide_eq_false (by omega)], trivial⟩ ?_
  intro e T H he hr hn hg
  cases tag1 he
  exact ⟨.inr rfl, rfl, _, hr, ⟨6, rfl, by show 3 ≤ 6; omega, hg (6, _) (.tail _ (.tail _ (.tail _ (.head _))))⟩, keep3 (by rw [hn]; show 3 ≤ 7; omega) (hg (0, _) (.head _)) (hg (1, _) (.tail _ (.head _))) (hg (2, _) (.tail _ (.tail _ (.head _))))⟩
theorem does16z {o0 o1 o2 : AObj} {m : Mf} {z : Int} (hz : z < 0 ∨ (m.n1 : Int) ≤ z) : Does Tryz.prog 16 [.agg (m.mc jks).toArray, i64 z] ⟨3, [(0, o0), (1, o1), (2, o2)]⟩ zpV ⟨3, [(0, o0), (1, o1), (2, o2)]⟩ := by
  refine cl_of_awp Tryz.func16 (c := codeOf Tryz.f16 []) rfl (fun E v' => zpV_inv) (fun E => zpV_mk) (awp_of_awn (n := 3) ?_ (Nat.le_refl _))
  by_cases h0 : z < 0
  · refine pieceF hm pCall_sound (oo16_sound _ _ _ _ _ _ _ _ _) (r16y o0 o1 o2 m z) ⟨by rw [decide_eq_true h0], trivial⟩ ?_
    intro e T H he hr hn hg
    cases tag1 he
    exact ⟨.inr rfl, rfl, _, hr, rfl, keep3 (by rw [hn]; show 3 ≤ 5; omega) (hg (0, _) (.head _)) (hg (1, _) (.tail _ (.head _))) (hg (2, _) (.tail _ (.tail _ (.head _))))⟩
  · refine pieceF hm pCall_sound (oo16_sound _ _ _ _ _ _ _ _ _) (r16z o0 o1 o2 m z) ⟨by rw [decide_eq_true (by omega)], by rw [decide_eq_false h0], trivial⟩ ?_
    intro e T H he hr hn hg
    cases tag1 he
    exact ⟨.inr rfl, rfl, _, hr, rfl, keep3 (by rw [hn]; show 3 ≤ 5; omega) (hg (0, _) (.head _)) (hg (1, _) (.tail _ (.head _))) (hg (2, _) (.tail _ (.tail _ (.head _))))⟩

/-- Proofs disclosed, by contract. -/
structure DsC (m : Mf) (ls : List Ln) (ss : List Sr) (xs : List Ct) (lv : List (List Int)) (j : Nat) (way : List (List Int)) (H : Heap) (v : Value) (z : Int) : Prop where
  hv : LvC m ls ss xs H v
  hl : lv = leaves m ls ss xs
  hb : lv.length ≤ 63
  hz : z = (j : Int)
  hj : j < ls.length
  hw : way = wayS (j + 1) lv
def dsG (m : Mf) (ls : List Ln) (ss : List Sr) (xs : List Ct) (lv : List (List Int)) (j : Nat) (way : List (List Int)) : List Value → Heap → Option CallR := fun args H => match args with
  | [v, .int .i64 z] => some (.eff (ctP ((j + 1 : Nat) : Int) (lv.length : Int) (sl H.next way.length)) (H.push (grD way)) (DsC m ls ss xs lv j way H v z))
  | _ => none
def dsZ (m : Mf) (ls : List Ln) (ss : List Sr) (xs : List Ct) : List Value → Heap → Option CallR := fun args H => match args with
  | [v, .int .i64 z] => some (.same zpV (LvC m ls ss xs H v ∧ (z < 0 ∨ (m.n1 : Int) ≤ z)))
  | _ => none
theorem lv_imp2 {m : Mf} {ls : List Ln} {ss : List Sr} {xs : List Ct} {H : Heap} {v : Value} (z : Int) (h : LvC m ls ss xs H v) : ∃ (m0 : Mf) (o0 o1 o2 : AObj), m0.ok o0 o1 o2 ls ss xs ∧ leaves m0 ls ss xs = leaves m ls ss xs ∧ m0.n1 = m.n1 ∧ Imp Tryz.prog [v, i64 z] H [.agg (m0.mc jks).toArray, i64 z] ⟨3, [(0, o0), (1, o1), (2, o2)]⟩ := by
  obtain ⟨rest, hrest, rfl⟩ := h.v
  obtain ⟨a1, c1, o0, s0, h1, r1, q1⟩ := slh_sl h.l 0
  obtain ⟨a2, c2, o1, s1, h2, r2, q2⟩ := slh_sl h.s 1
  obtain ⟨a3, c3, o2, s2, h3, r3, q3⟩ := slh_sl h.x 2
  refine ⟨⟨m.p, m.d, a1, m.n1, c1, a2, m.n2, c2, a3, m.n3, c3⟩, o0, o1, o2, ⟨h1, h2, h3, h.bl, h.bs, h.bx⟩, rfl, rfl, ?_⟩
  generalize hS : (fun j => if j = 0 then s0 else if j = 1 then s1 else if j = 2 then s2 else none : Part) = S
  have e0 : S 0 = s0 := by rw [← hS]; rfl
  have e1 : S 1 = s1 := by rw [← hS]; rfl
  have e2 : S 2 = s2 := by rw [← hS]; rfl
  refine imp_gen S (fun j x hj => ?_) (.cons (RI.agg ?_) (.cons (.closed rfl) .nil)) (fun p hp => ?_)
  · rw [← hS] at hj
    by_cases e0 : j = 0
    · omega
    · by_cases e1 : j = 1
      · omega
      · by_cases e2 : j = 2
        · omega
        · simp [e0, e1, e2] at hj
  · exact .cons (.closed rfl) (.cons (.closed rfl) (.cons (r1 _ e0) (.cons (r2 _ e1) (.cons (r3 _ e2) (ri_jks hrest)))))
  · rcases List.mem_cons.1 hp with rfl | hp
    · exact q1 S e0
    · rcases List.mem_cons.1 hp with rfl | hp
      · exact q2 S e1
      · cases List.mem_singleton.1 hp
        exact q3 S e2
theorem ds15 (m : Mf) (ls : List Ln) (ss : List Sr) (xs : List Ct) (lv : List (List Int)) (j : Nat) (way : List (List Int)) : SoundC Tryz.prog (oneC 15 (dsG m ls ss xs lv j way)) := oneC_sound fun args H r h => by
  unfold dsG at h
  split at h
  case h_2 => cases h
  cases h
  rintro ⟨hc, rfl, hb, rfl, hj, rfl⟩
  obtain ⟨m0, o0, o1, o2, hok, hl, _, himp⟩ := lv_imp2 (j : Int) hc
  rw [← hl] at hb ⊢
  exact frame_ctx (ct := ctP ((j + 1 : Nat) : Int) ((leaves m0 ls ss xs).length : Int)) (fun E s v' => ctP_inv _ _ E s v') (fun E s s' => ctP_mk _ _ E s s') (does15 hok hb hj) rfl flatD_c2 himp
theorem dz15 (m : Mf) (ls : List Ln) (ss : List Sr) (xs : List Ct) : SoundC Tryz.prog (oneC 15 (dsZ m ls ss xs)) := oneC_sound fun args H r h => by
  unfold dsZ at h
  split at h
  case h_2 => cases h
  rename_i v z
  cases h
  rintro ⟨hc, hz⟩
  obtain ⟨m0, o0, o1, o2, hok, hl, hn, himp⟩ := lv_imp2 z hc
  exact frame_cl (does15z (by rw [hn]; exact hz)) (fun E v' => zpV_inv) (fun E => zpV_mk) himp
theorem ds16 (m : Mf) (ls : List Ln) (ss : List Sr) (xs : List Ct) (lv : List (List Int)) (j : Nat) (way : List (List Int)) : SoundC Tryz.prog (oneC 16 (dsG m ls ss xs lv j way)) := oneC_sound fun args H r h => by
  unfold dsG at h
  split at h
  case h_2 => cases h
  cases h
  rintro ⟨hc, rfl, hb, rfl, hj, rfl⟩
  obtain ⟨m0, o0, o1, o2, hok, hl, _, himp⟩ := lv_imp2 (j : Int) hc
  rw [← hl] at hb ⊢
  exact frame_ctx (ct := ctP ((j + 1 : Nat) : Int) ((leaves m0 ls ss xs).length : Int)) (fun E s v' => ctP_inv _ _ E s v') (fun E s s' => ctP_mk _ _ E s s') (does16 hok hb hj) rfl flatD_c2 himp
theorem dz16 (m : Mf) (ls : List Ln) (ss : List Sr) (xs : List Ct) : SoundC Tryz.prog (oneC 16 (dsZ m ls ss xs)) := oneC_sound fun args H r h => by
  unfold dsZ at h
  split at h
  case h_2 => cases h
  rename_i v z
  cases h
  rintro ⟨hc, hz⟩
  obtain ⟨m0, o0, o1, o2, hok, hl, hn, himp⟩ := lv_imp2 z hc
  exact frame_cl (does16z (by rw [hn]; exact hz)) (fun E v' => zpV_inv) (fun E => zpV_mk) himp
end Go.Abs

namespace Go.Abs
open Go.Proofs
set_option maxRecDepth 1000000

/-- An oracle at one place alone. -/
def atO (d : Nat) (OO : OpO) : OpO := fun o ρ H => match o.dst with
  | some d' => bif Nat.beq d' d then OO o ρ H else none
  | none => none
theorem atO_eq {d : Nat} {OO : OpO} {o : Oper} {ρ : Operand → Value} {H : Heap} {r : OpR} (h : atO d OO o ρ H = some r) : OO o ρ H = some r := by
  unfold atO at h
  split at h
  case h_2 => cases h
  exact (cond_opt h).2
theorem atO_sound {P : Program} {d : Nat} {OO : OpO} (h : SoundO P OO) : SoundO P (atO d OO) :=
  ⟨fun o ρ H v ob c k => h.fr o ρ H v ob c (atO_eq k), fun o ρ H v c k => h.rd o ρ H v c (atO_eq k), fun o ρ H v c k => h.pure o ρ H v c (atO_eq k), fun o ρ H v c k => h.same o ρ H v c (atO_eq k), fun o ρ H v H' c k => h.eff o ρ H v H' c (atO_eq k)⟩

def Mg.at0 (m : Mg) : Mg := { m with a1 := some ⟨0, 0, none⟩, c1 := capG }
theorem Mg.at0_eq {m : Mg} (h1 : m.a1 = some ⟨0, 0, none⟩) (h2 : m.c1 = capG) : m.at0 = m := by
  obtain ⟨⟨p, d, a1, n1, c1, a2, n2, c2, a3, n3, c3⟩, rt, si, a4, n4, c4, pi, pc, a5, n5, c5⟩ := m
  simp only at h1 h2
  subst h1 h2
  rfl
abbrev in3 (a b c : Int) : List Value := [i64 a, i64 b, i64 c]
abbrev T5 (l : List (Nat × Value)) : List Value := mkT 109 ([(3, pt 5), (4, pt 6), (5, pt 7), (6, .bool false)] ++ l) jX
abbrev b5 (o0 o1 o2 : AObj) (mc l i3 : List Value) : List (Nat × AObj) := [(0, o0), (1, o1), (2, o2), (5, .cells mc 33), (6, .cells l 37), (7, .cells i3 47)]
abbrev H5 (o0 o1 o2 : AObj) (mc l i3 : List Value) : Heap := mkH 8 (b5 o0 o1 o2 mc l i3) []
theorem r5a (o0 o1 o2 : AObj) (m : Mg) (l : Ln) (a b c : Int) : (ex3 Tryz.prog pCall noOO 60 (pre 0 (codeOf Tryz.f5 [])) ⟨⟨[.agg m.all.toArray, .agg l.cells.toArray, .agg (in3 a b c).toArray] ++ List.replicate 106 undef, ⟨5, [(0, o0), (1, o1), (2, o2)]⟩, []⟩, True⟩).map (obs3 [3,4,5,6] [0,1,2,5,6,7])
  = some (⟨0, [pt 5, pt 6, pt 7, .bool false], 109, 8, [o0, o1, o2, .cells m.all 33, .cells l.cells 37, .cells (in3 a b c) 47], []⟩, True) := by kernel_rfl
theorem r5b0 (o0 o1 o2 : AObj) (m : Mg) (l i3 : List Value) : (ex3 Tryz.prog pCall (oo3a [false, true, true, true, true]) 60 (pre 0 (codeOf Tryz.f5 [1,0])) ⟨⟨T5 [], H5 o0 o1 o2 m.all l i3, []⟩, True⟩).map (obs3 [3,4,5,6,15] [0,1,2,5,6,7])
  = some (⟨0, [pt 5, pt 6, pt 7, .bool false, .bool true], 109, 9, [o0, o1, o2, .cells m.all 33, .cells l 37, .cells i3 47], []⟩, (dcd m.n1 20 false ∧ True) ∧ True) := by kernel_rfl
theorem r5b1 (o0 o1 o2 : AObj) (m : Mg) (l i3 : List Value) : (ex3 Tryz.prog pCall (oo3a [true, false, true, true, true]) 60 (pre 0 (codeOf Tryz.f5 [1,0])) ⟨⟨T5 [], H5 o0 o1 o2 m.all l i3, []⟩, True⟩).map (obs3 [3,4,5,6,15] [0,1,2,5,6,7])
  = some (⟨0, [pt 5, pt 6, pt 7, .bool false, .bool true], 109, 9, [o0, o1, o2, .cells m.all 33, .cells l 37, .cells i3 47], []⟩, (dcd m.n2 20 false ∧ dcd m.n1 20 true ∧ True) ∧ True) := by kernel_rfl
theorem r5b2 (o0 o1 o2 : AObj) (m : Mg) (l i3 : List Value) : (ex3 Tryz.prog pCall (oo3a [true, true, false, true, true]) 60 (pre 0 (codeOf Tryz.f5 [1,0])) ⟨⟨T5 [], H5 o0 o1 o2 m.all l i3, []⟩, True⟩).map (obs3 [3,4,5,6,15] [0,1,2,5,6,7])
  = some (⟨0, [pt 5, pt 6, pt 7, .bool false, .bool true], 109, 9, [o0, o1, o2, .cells m.all 33, .cells l 37, .cells i3 47], []⟩, (dcd m.n3 20 false ∧ dcd m.n2 20 true ∧ dcd m.n1 20 true ∧ True) ∧ True) := by kernel_rfl
theorem r5b3 (o0 o1 o2 : AObj) (m : Mg) (l i3 : List Value) : (ex3 Tryz.prog pCall (oo3a [true, true, true, false, true]) 60 (pre 0 (codeOf Tryz.f5 [1,0])) ⟨⟨T5 [], H5 o0 o1 o2 m.all l i3, []⟩, True⟩).map (obs3 [3,4,5,6,15] [0,1,2,5,6,7])
  = some (⟨0, [pt 5, pt 6, pt 7, .bool false, .bool true], 109, 9, [o0, o1, o2, .cells m.all 33, .cells l 37, .cells i3 47], []⟩, (dcd m.n4 40 false ∧ dcd m.n3 20 true ∧ dcd m.n2 20 true ∧ dcd m.n1 20 true ∧ True) ∧ True) := by kernel_rfl
theorem r5b4 (o0 o1 o2 : AObj) (m : Mg) (l i3 : List Value) : (ex3 Tryz.prog pCall (oo3a [true, true, true, true, false]) 60 (pre 0 (codeOf Tryz.f5 [1,0])) ⟨⟨T5 [], H5 o0 o1 o2 m.all l i3, []⟩, True⟩).map (obs3 [3,4,5,6,15] [0,1,2,5,6,7])
  = some (⟨0, [pt 5, pt 6, pt 7, .bool false, .bool true], 109, 9, [o0, o1, o2, .cells m.all 33, .cells l 37, .cells i3 47], []⟩, (dcd m.n5 20 false ∧ dcd m.n4 40 true ∧ dcd m.n3 20 true ∧ dcd m.n2 20 true ∧ dcd m.n1 20 true ∧ True) ∧ True) := by kernel_rfl
theorem r5b5 (o0 o1 o2 : AObj) (m : Mg) (l i3 : List Value) : (ex3 Tryz.prog pCall (oo3a [true, true, true, true, true]) 60 (pre 0 (codeOf Tryz.f5 [1,0])) ⟨⟨T5 [], H5 o0 o1 o2 m.all l i3, []⟩, True⟩).map (obs3 [3,4,5,6,15] [0,1,2,5,6,7])
  = some (⟨0, [pt 5, pt 6, pt 7, .bool false, .bool false], 109, 9, [o0, o1, o2, .cells m.all 33, .cells l 37, .cells i3 47], []⟩, (dcd m.n5 20 true ∧ dcd m.n4 40 true ∧ dcd m.n3 20 true ∧ dcd m.n2 20 true ∧ dcd m.n1 20 true ∧ True) ∧ True) := by kernel_rfl
theorem r5c (b : Value) (H : Heap) : (ex3 Tryz.prog pCall (callO Tryz.prog (oneC 9 awG)) 60 (codeOf Tryz.f5 [1,0,1,0]) ⟨⟨T5 [(15, b)], H, []⟩, True⟩).map (fun r => (r.1.tag, resA Tryz.prog Tryz.f5 r.2.T r.2.H, r.2.H, r.2.D, r.2.L))
  = some (1, some (.bool true), H, [], True ∧ True) := by kernel_rfl
noncomputable def oo5z (m : Mf) (ls : List Ln) (ss : List Sr) (xs : List Ct) (l : Ln) (x : Nat → Int) : OpO := orO (callO Tryz.prog (oneC 15 (dsZ m ls ss xs))) (orO (callO Tryz.prog (oneC 16 (dsZ m ls ss xs))) (orO (callO Tryz.prog (oneC 17 (spG [] 0 0))) (orO (callO Tryz.prog (oneC 13 (mrG m ls ss xs (dgf x)))) (orO (callO Tryz.prog (oneC 18 (pvG 0 0 [] l (dgf x) false))) (callO Tryz.prog (oneC 9 awG))))))
theorem oo5z_sound (h9 : ∀ H, Does Tryz.prog 9 [] H (.bool true) H) (m : Mf) (ls : List Ln) (ss : List Sr) (xs : List Ct) (l : Ln) (x : Nat → Int) : SoundO Tryz.prog (oo5z m ls ss xs l x) := orO_sound (callO_sound (dz15 _ _ _ _)) (orO_sound (callO_sound (dz16 _ _ _ _)) (orO_sound (callO_sound (sp17 _ _ _)) (orO_sound (callO_sound (mr13 _ _ _ _ _)) (orO_sound (callO_sound (pv18 _ _ _ _ _ _)) (callO_sound (awG_sound h9))))))
theorem r5z (o0 o1 o2 : AObj) (m : Mg) (ls : List Ln) (ss : List Sr) (xs : List Ct) (l : Ln) (x : Nat → Int) (a b c : Int) (bb : Value) : (ex3 Tryz.prog pCall (oo5z m.toMf ls ss xs l x) 60 (codeOf Tryz.f5 [1,1]) ⟨⟨T5 [(15, bb)], H5 o0 o1 o2 m.all l.cells (in3 a b c), []⟩, True⟩).map (fin3 Tryz.prog Tryz.f5 [0,1,2,3,4])
  = some (⟨1, some (.bool true), 11, [o0, o1, o2, .dead, .dead], []⟩, True ∧ ((dgf x).length = 32 ∧ dig (dgf x) = dig (dgf x) ∧ Value.agg l.cells.toArray = .agg l.cells.toArray) ∧
    MrC m.toMf ls ss xs (dgf x) ⟨10, [(9, z29), (9, z29), (8, z29), (8, z29)] ++ b5 o0 o1 o2 m.all l.cells (in3 a b c)⟩ (.agg m.all.toArray) ∧ True ∧
    (LvC m.toMf ls ss xs ⟨9, [(8, z29), (8, z29)] ++ b5 o0 o1 o2 m.all l.cells (in3 a b c)⟩ (.agg m.all.toArray) ∧ (a < 0 ∨ (m.n1 : Int) ≤ a)) ∧
    (LvC m.toMf ls ss xs ⟨8, b5 o0 o1 o2 m.all l.cells (in3 a b c)⟩ (.agg m.all.toArray) ∧ (a < 0 ∨ (m.n1 : Int) ≤ a)) ∧ True) := by kernel_rfl
noncomputable def oo5a (m : Mf) (ls : List Ln) (ss : List Sr) (xs : List Ct) (lv way : List (List Int)) (j : Nat) (x : Nat → Int) : OpO := orO (callO Tryz.prog (oneC 15 (dsG m ls ss xs lv j way))) (orO (callO Tryz.prog (oneC 16 (dsG m ls ss xs lv j way))) (orO (callO Tryz.prog (oneC 17 (spG way (j + 1) lv.length))) (callO Tryz.prog (oneC 13 (mrG m ls ss xs (dgf x))))))
theorem oo5a_sound (m : Mf) (ls : List Ln) (ss : List Sr) (xs : List Ct) (lv way : List (List Int)) (j : Nat) (x : Nat → Int) : SoundO Tryz.prog (oo5a m ls ss xs lv way j x) := orO_sound (callO_sound (ds15 _ _ _ _ _ _ _)) (orO_sound (callO_sound (ds16 _ _ _ _ _ _ _)) (orO_sound (callO_sound (sp17 _ _ _)) (callO_sound (mr13 _ _ _ _ _))))
theorem r5d (o0 o1 o2 : AObj) (m : Mg) (ls : List Ln) (ss : List Sr) (xs : List Ct) (lv way : List (List Int)) (l : List Value) (j : Nat) (x : Nat → Int) (a b c : Int) (bb : Value) : (ex3 Tryz.prog pCall (oo5a m.toMf ls ss xs lv way j x) 60 (pre 4 (codeOf Tryz.f5 [1,1])) ⟨⟨T5 [(15, bb)], H5 o0 o1 o2 m.all l (in3 a b c), []⟩, True⟩).map (obs3 [3,4,5,6,7,8,11,12] [0,1,2,5,6,7,8,9,12])
  = some (⟨0, [pt 5, pt 6, pt 7, .bool false, pt 9, i64 0, pt 12, i64 0], 109, 13, [o0, o1, o2, .cells m.all 33, .cells l 37, .cells (in3 a b c) 47, grD way, oPf (j + 1) lv.length (sl 8 way.length), .cells (bytes (dgf x)) 26], []⟩,
    MrC m.toMf ls ss xs (dgf x) ⟨12, [(11, oPf (j + 1) lv.length (sl 10 way.length)), (11, z29), (10, grD way), (9, oPf (j + 1) lv.length (sl 8 way.length)), (9, z29), (8, grD way)] ++ b5 o0 o1 o2 m.all l (in3 a b c)⟩ (.agg m.all.toArray) ∧
    ((((j + 1 : Nat) : Int) = ((j + 1 : Nat) : Int) ∧ (lv.length : Int) = (lv.length : Int) ∧ ((j + 1 : Nat) : Int) = ((j + 1 : Nat) : Int) ∧ (lv.length : Int) = (lv.length : Int)) ∧ SliC way way.length 0 (flatD way) ∧ SliC way way.length 0 (flatD way) ∧ way.length ≤ 100000) ∧
    DsC m.toMf ls ss xs lv j way ⟨10, [(9, oPf (j + 1) lv.length (sl 8 way.length)), (9, z29), (8, grD way)] ++ b5 o0 o1 o2 m.all l (in3 a b c)⟩ (.agg m.all.toArray) a ∧ DsC m.toMf ls ss xs lv j way ⟨8, b5 o0 o1 o2 m.all l (in3 a b c)⟩ (.agg m.all.toArray) a ∧ True) := by kernel_rfl
abbrev T5b : List Value := T5 [(7, pt 9), (8, i64 0), (11, pt 10), (12, i64 0)]
abbrev b5b (o0 o1 o2 : AObj) (mc l i3 ws x : List Value) (i n k : Nat) : List (Nat × AObj) := b5 o0 o1 o2 mc l i3 ++ [(8, .grow ws 26), (9, oPf i n (sl 8 k)), (10, .cells x 26)]
abbrev H5b (o0 o1 o2 : AObj) (mc l i3 ws x : List Value) (i n k : Nat) : Heap := mkH 11 (b5b o0 o1 o2 mc l i3 ws x i n k) []
abbrev v5b (o0 o1 o2 : AObj) (mc l i3 ws x : List Value) (i n k : Nat) : List AObj := [o0, o1, o2, .cells mc 33, .cells l 37, .cells i3 47, .grow ws 26, oPf i n (sl 8 k), .cells x 26]
noncomputable def oo5b (b1 : Bool) (q : Nat) (y y' : Int) : OpO :=
  orO (forceO Tryz.prog 58 (.bool b1)) (orO (forceO Tryz.prog 63 (.bool true)) (orO (forceO Tryz.prog 69 (i64 (q : Int))) (orO (idxO Tryz.prog 70) (orO (idxA Tryz.prog 71) (orO (ldO Tryz.prog 72 (.int .u8 y)) (orO (forceO Tryz.prog 73 (.int .u8 y')) (orO (idxO Tryz.prog 74) (orO (idxA Tryz.prog 75) (stO Tryz.prog 75)))))))))
theorem oo5b_sound (b1 : Bool) (q : Nat) (y y' : Int) : SoundO Tryz.prog (oo5b b1 q y y') := orO_sound forceO_sound (orO_sound forceO_sound (orO_sound forceO_sound (orO_sound idxO_sound (orO_sound idxA_sound (orO_sound ldO_sound (orO_sound forceO_sound (orO_sound idxO_sound (orO_sound idxA_sound stO_sound))))))))
abbrev An5 (b : Int) (b1 : Bool) : Prop := some (Value.bool (IntKind.i64.wrap (((BitVec.ofInt IntKind.i64.bits b &&& BitVec.ofInt IntKind.i64.bits 3).toNat : Nat) : Int) == 0)) = some (Value.bool b1)
abbrev q5 (c : Int) : Nat := (BitVec.ofInt IntKind.i64.bits c &&& BitVec.ofInt IntKind.i64.bits 31).toNat
abbrev x5 (y : Int) : Int := IntKind.u8.wrap (((BitVec.ofInt IntKind.u8.bits y ^^^ BitVec.ofInt IntKind.u8.bits 1).toNat : Nat) : Int)
theorem r5e (o0 o1 o2 : AObj) (mc l ws x : List Value) (a b c : Int) (i n k : Nat) : (ex3 Tryz.prog pCall (oo5b false 0 0 0) 60 (codeOf Tryz.f5 [1,1,1,1,1,1,1,0]) ⟨⟨T5b, H5b o0 o1 o2 mc l (in3 a b c) ws x i n k, []⟩, True⟩).map (obs3 [3,4,5,6,7,8,11,12] [0,1,2,5,6,7,8,9,10])
  = some (⟨0, [pt 5, pt 6, pt 7, .bool false, pt 9, i64 0, pt 10, i64 0], 109, 11, v5b o0 o1 o2 mc l (in3 a b c) ws x i n k, []⟩, An5 b false ∧ True) := by kernel_rfl
theorem r5f (o0 o1 o2 : AObj) (mc l ws x : List Value) (a b c y y' : Int) (i n k q : Nat) : (ex3 Tryz.prog pCall (oo5b true q y y') 60 (codeOf Tryz.f5 [1,1,1,1,1,1,1,0]) ⟨⟨T5b, H5b o0 o1 o2 mc l (in3 a b c) ws x i n k, []⟩, True⟩).map (obs3 [3,4,5,6,7,8,11,12] [0,1,2,5,6,7,8,9,10])
  = some (⟨0, [pt 5, pt 6, pt 7, .bool false, pt 9, i64 0, pt 10, i64 0], 109, 11, v5b o0 o1 o2 mc l (in3 a b c) (splice ws (0 + 0 * 32 + q * 1) [.int .u8 y']) x i n k, []⟩,
    StC [.int .u8 y'] 1 (0 + 0 * 32 + q * 1) ws ∧ ((0 : Int) ≤ (q : Int) ∧ (q : Int) < ((32 : Nat) : Int)) ∧ ((0 : Int) ≤ 0 ∧ (0 : Int) < (k : Int)) ∧ some (Value.int .u8 (x5 y)) = some (Value.int .u8 y') ∧ LdC Tryz.prog 5 (some ws) (0 + 0 * 32 + q * 1) (.int .u8 y) ∧ ((0 : Int) ≤ (q : Int) ∧ (q : Int) < ((32 : Nat) : Int)) ∧ ((0 : Int) ≤ 0 ∧ (0 : Int) < (k : Int)) ∧
    some (i64 (IntKind.i64.wrap ((q5 c : Nat) : Int))) = some (i64 (q : Int)) ∧ some (Value.bool (decide ((k : Int) > 0))) = some (Value.bool true) ∧ An5 b true ∧ True) := by kernel_rfl
noncomputable def oo5c (i n : Nat) (ss : List (List Int)) (l l2 : Ln) (r : List Int) (bb bb2 : Bool) : OpO :=
  orO (atO 79 (callO Tryz.prog (oneC 18 (pvG i n ss l r bb)))) (orO (atO 83 (callO Tryz.prog (oneC 19 (pvG i n ss l r bb)))) (orO (forceO Tryz.prog 84 (.bool true)) (orO (idxO Tryz.prog 91) (orO (ldO Tryz.prog 92 (.agg l2.cells.toArray)) (orO (atO 94 (callO Tryz.prog (oneC 18 (pvG i n ss l2 r bb2))))
  (orO (idxO Tryz.prog 100) (orO (ldO Tryz.prog 101 (.agg l2.cells.toArray)) (orO (atO 103 (callO Tryz.prog (oneC 19 (pvG i n ss l2 r bb2)))) (orO (forceO Tryz.prog 104 (.bool true)) (callO Tryz.prog (oneC 9 awG)))))))))))
theorem oo5c_sound (h9 : ∀ H, Does Tryz.prog 9 [] H (.bool true) H) (i n : Nat) (ss : List (List Int)) (l l2 : Ln) (r : List Int) (bb bb2 : Bool) : SoundO Tryz.prog (oo5c i n ss l l2 r bb bb2) :=
  orO_sound (atO_sound (callO_sound (pv18 _ _ _ _ _ _))) (orO_sound (atO_sound (callO_sound (pv19 _ _ _ _ _ _))) (orO_sound forceO_sound (orO_sound idxO_sound (orO_sound ldO_sound (orO_sound (atO_sound (callO_sound (pv18 _ _ _ _ _ _)))
  (orO_sound idxO_sound (orO_sound ldO_sound (orO_sound (atO_sound (callO_sound (pv19 _ _ _ _ _ _))) (orO_sound forceO_sound (callO_sound (awG_sound h9)))))))))))
theorem r5g (cs0 ws : List Value) (o1 o2 : AObj) (m : Mg) (l l2 : Ln) (x : Nat → Int) (ss : List (List Int)) (a b c : Int) (i n k : Nat) (bb bb2 : Bool) : (ex3 Tryz.prog pCall (oo5c i n ss l l2 (dgf x) bb bb2) 60 (codeOf Tryz.f5 [1,1,1,1,1,1,1,1]) ⟨⟨T5b, H5b (.ro cs0) o1 o2 m.at0.all l.cells (in3 a b c) ws (bytes (dgf x)) i n k, []⟩, True⟩).map (fin3 Tryz.prog Tryz.f5 [0,1,2,3,4])
  = some (⟨1, some (.bool true), 11, [.ro cs0, o1, o2, .dead, .dead], []⟩, True ∧ some (Value.bool (bb2 == bb2)) = some (Value.bool true) ∧ PvC i n ss l2 (dgf x) bb2 (dig (dgf x)) (.agg l2.cells.toArray) (i : Int) (n : Int) k 0 ws ∧ LdC Tryz.prog 37 (some cs0) (0 + a.toNat * 38) (.agg l2.cells.toArray) ∧ ((0 : Int) ≤ a ∧ a < (m.at0.n1 : Int)) ∧
    PvC i n ss l2 (dgf x) bb2 (dig (dgf x)) (.agg l2.cells.toArray) (i : Int) (n : Int) k 0 ws ∧ LdC Tryz.prog 37 (some cs0) (0 + a.toNat * 38) (.agg l2.cells.toArray) ∧ ((0 : Int) ≤ a ∧ a < (m.at0.n1 : Int)) ∧ some (Value.bool (bb == bb)) = some (Value.bool true) ∧
    PvC i n ss l (dgf x) bb (dig (dgf x)) (.agg l.cells.toArray) (i : Int) (n : Int) k 0 ws ∧ PvC i n ss l (dgf x) bb (dig (dgf x)) (.agg l.cells.toArray) (i : Int) (n : Int) k 0 ws ∧ True) := by kernel_rfl

-- one byte of the first sibling changed
theorem flip1 {d : List Int} {rest : List (List Int)} {q : Nat} {y' : Int} (hd : d.length = 32) (hq : q < 32) : splice (flatD (d :: rest)) (0 + 0 * 32 + q * 1) [.int .u8 y'] = flatD (d.set q y' :: rest) := by
  have e : (0 + 0 * 32 + q * 1) = q := by omega
  have hb : (bytes d).length = 32 := by rw [bytes_len, hd]
  rw [e, splice, show flatD (d :: rest) = bytes d ++ flatD rest from rfl, show flatD (d.set q y' :: rest) = bytes (d.set q y') ++ flatD rest from rfl]
  rw [List.take_append_of_le_length (by omega), List.drop_append_of_le_length (by simp; omega)]
  have : bytes (d.set q y') = (bytes d).take q ++ [.int .u8 y'] ++ (bytes d).drop (q + 1) := by
    rw [bytes, List.map_set, ← bytes, List.set_eq_take_append_cons_drop, if_pos (by omega)]
    simp
  rw [this]
  simp
theorem ldC_u8 {cs : List Value} {off : Nat} {v : Value} (h : cs[off]? = some v) : LdC Tryz.prog 5 (some cs) off v := by
  unfold LdC ldR
  simp only [agg5]
  exact h
theorem q5_lt (c : Int) : q5 c < 32 := by
  unfold q5
  rw [BitVec.toNat_and]
  have : (BitVec.ofInt IntKind.i64.bits 31).toNat = 31 := by decide +kernel
  rw [this]
  exact Nat.lt_of_le_of_lt Nat.and_le_right (by omega)

theorem does5 (h9 : ∀ H, Does Tryz.prog 9 [] H (.bool true) H) {o0 o1 o2 : AObj} {m : Mg} {ls : List Ln} {ss : List Sr} {xs : List Ct} (hl : SL 0 m.a1 m.n1 m.c1 o0 ls.length (ls.flatMap Ln.cells)) (hs : SL 1 m.a2 m.n2 m.c2 o1 ss.length (ss.flatMap Sr.cells)) (hx : SL 2 m.a3 m.n3 m.c3 o2 xs.length (xs.flatMap Ct.cells)) (hp : SN 3 m.a4 m.n4 m.c4) (hq : SN 4 m.a5 m.n5 m.c5) (l : Ln) (a b c : Int) :
    Does Tryz.prog 5 [.agg m.all.toArray, .agg l.cells.toArray, .agg (in3 a b c).toArray] ⟨5, [(0, o0), (1, o1), (2, o2)]⟩ (.bool true) ⟨5, [(0, o0), (1, o1), (2, o2)]⟩ := by
  refine val_of_awp Tryz.func5 (c := codeOf Tryz.f5 []) rfl rfl (awp_of_awn (n := 5) ?_ (Nat.le_refl _))
  have hn1 := hl.n
  have hn2 := hs.n
  have hn3 := hx.n
  have hrv : ∀ (σ : Nat → Option Nat), σ 0 = some 0 → σ 1 = some 1 → σ 2 = some 2 → σ 3 = some 3 → σ 4 = some 4 → F2 (RV σ) m.all m.all := fun σ h0 h1 h2 h3 h4 =>
    .cons (.closed rfl) (.cons (.closed rfl) (.cons (hl.rv h0) (.cons (hs.rv h1) (.cons (hx.rv h2) (F2.append2 (RV.all bytes_c2) (.cons (.closed rfl) (.cons (hp.rv (j := 3) h3) (.cons (.closed rfl) (.cons (.closed rfl) (.cons (hq.rv (j := 4) h4) .nil))))))))))
  have hin : ∀ (σ : Nat → Option Nat), RO σ (.cells (in3 a b c) 47) (.cells (in3 a b c) 47) := fun σ => .cells (.cons (.closed rfl) (.cons (.closed rfl) (.cons (.closed rfl) .nil)))
  have hlr : ∀ (σ : Nat → Option Nat), RO σ (.cells l.cells 37) (.cells l.cells 37) := fun σ => .cells (RV.all l.cc2)
  have hob : ∀ s, sg 5 s 5 = some 5 → sg 5 s 6 = some 6 → sg 5 s 7 = some 7 → F2 (fun (p q : Nat × AObj) => sg 5 s q.1 = some p.1 ∧ RO (sg 5 s) p.2 q.2) (([0,1,2,5,6,7] : List Nat).zip [o0, o1, o2, .cells m.all 33, .cells l.cells 37, .cells (in3 a b c) 47]) (b5 o0 o1 o2 m.all l.cells (in3 a b c)) := fun s e5 e6 e7 =>
    .cons ⟨rfl, hl.ro⟩ (.cons ⟨rfl, hs.ro⟩ (.cons ⟨rfl, hx.ro⟩ (.cons ⟨e5, .cells (hrv _ rfl rfl rfl rfl rfl)⟩ (.cons ⟨e6, hlr _⟩ (.cons ⟨e7, hin _⟩ .nil)))))
  refine pieceS hm pCall_sound noOO_sound 0 (r5a o0 o1 o2 m l a b c) rfl trivial rfl 8 [(5, 5), (6, 6), (7, 7)] rfl (hob _ rfl rfl rfl) .nil ?_
  refine awn_seq (x := codeOf Tryz.f5 [1,0]) (y := codeOf Tryz.f5 [1,1]) ?_
  have awk : ∀ (bv : Value), Awn Tryz.prog 5 (codeOf Tryz.f5 [1,0,1,0]) (thenA (Awn Tryz.prog 5 (codeOf Tryz.f5 [1,1]) (EndF Tryz.f5 ⟨5, [(0, o0), (1, o1), (2, o2)]⟩)) (EndF Tryz.f5 ⟨5, [(0, o0), (1, o1), (2, o2)]⟩)) (T5 [(15, bv)]) (H5 o0 o1 o2 m.all l.cells (in3 a b c)) [] := fun bv =>
    awn_mono (Q := fun e T H D => e = .ret ∧ EndF Tryz.f5 ⟨5, [(0, o0), (1, o1), (2, o2)]⟩ e T H D) (pieceY pCall_sound (callO_sound (awG_sound h9)) (r5c bv _) ⟨trivial, trivial⟩ (keep5 (by show 5 ≤ 8; omega) rfl rfl rfl rfl rfl)) (by rintro e T H D ⟨rfl, h⟩; exact h)
  by_cases h1 : m.n1 ≤ 20
  case neg =>
    refine pieceS hm pCall_sound (oo3a_sound false true true true true) 0 (r5b0 o0 o1 o2 m l.cells (in3 a b c)) rfl ⟨⟨dcd_of (decide_eq_false h1), trivial⟩, trivial⟩ rfl 8 [(5, 5), (6, 6), (7, 7)] rfl (hob _ rfl rfl rfl) .nil ?_
    exact awn_cond (c := .tmp 15) (b := true) rfl rfl (awk _)
  by_cases h2 : m.n2 ≤ 20
  case neg =>
    refine pieceS hm pCall_sound (oo3a_sound true false true true true) 0 (r5b1 o0 o1 o2 m l.cells (in3 a b c)) rfl ⟨⟨dcd_of (decide_eq_false h2), dcd_of (decide_eq_true h1), trivial⟩, trivial⟩ rfl 8 [(5, 5), (6, 6), (7, 7)] rfl (hob _ rfl rfl rfl) .nil ?_
    exact awn_cond (c := .tmp 15) (b := true) rfl rfl (awk _)
  by_cases h3 : m.n3 ≤ 20
  case neg =>
    refine pieceS hm pCall_sound (oo3a_sound true true false true true) 0 (r5b2 o0 o1 o2 m l.cells (in3 a b c)) rfl ⟨⟨dcd_of (decide_eq_false h3), dcd_of (decide_eq_true h2), dcd_of (decide_eq_true h1), trivial⟩, trivial⟩ rfl 8 [(5, 5), (6, 6), (7, 7)] rfl (hob _ rfl rfl rfl) .nil ?_
    exact awn_cond (c := .tmp 15) (b := true) rfl rfl (awk _)
  by_cases h4 : m.n4 ≤ 40
  case neg =>
    refine pieceS hm pCall_sound (oo3a_sound true true true false true) 0 (r5b3 o0 o1 o2 m l.cells (in3 a b c)) rfl ⟨⟨dcd_of (decide_eq_false h4), dcd_of (decide_eq_true h3), dcd_of (decide_eq_true h2), dcd_of (decide_eq_true h1), trivial⟩, trivial⟩ rfl 8 [(5, 5), (6, 6), (7, 7)] rfl (hob _ rfl rfl rfl) .nil ?_
    exact awn_cond (c := .tmp 15) (b := true) rfl rfl (awk _)
  by_cases h5 : m.n5 ≤ 20
  case neg =>
    refine pieceS hm pCall_sound (oo3a_sound true true true true false) 0 (r5b4 o0 o1 o2 m l.cells (in3 a b c)) rfl ⟨⟨dcd_of (decide_eq_false h5), dcd_of (decide_eq_true h4), dcd_of (decide_eq_true h3), dcd_of (decide_eq_true h2), dcd_of (decide_eq_true h1), trivial⟩, trivial⟩ rfl 8 [(5, 5), (6, 6), (7, 7)] rfl (hob _ rfl rfl rfl) .nil ?_
    exact awn_cond (c := .tmp 15) (b := true) rfl rfl (awk _)
  refine pieceS hm pCall_sound (oo3a_sound true true true true true) 0 (r5b5 o0 o1 o2 m l.cells (in3 a b c)) rfl ⟨⟨dcd_of (decide_eq_true h5), dcd_of (decide_eq_true h4), dcd_of (decide_eq_true h3), dcd_of (decide_eq_true h2), dcd_of (decide_eq_true h1), trivial⟩, trivial⟩ rfl 8 [(5, 5), (6, 6), (7, 7)] rfl (hob _ rfl rfl rfl) .nil ?_
  refine awn_cond (c := .tmp 15) (b := false) rfl rfl (awn_skip ?_)
  have h : m.toMf.ok o0 o1 o2 ls ss xs := ⟨hl, hs, hx, by omega, by omega, by omega⟩
  have hll := leaves_len m.toMf ls ss xs
  generalize hlv : leaves m.toMf ls ss xs = lv at hll
  have hlv32 : ∀ d ∈ lv, d.length = 32 := by rw [← hlv]; exact leaves_32
  have hfx : dgf (fn (rootS lv)) = rootS lv := dgf_of (rootS_len _)
  by_cases hbad : a < 0 ∨ (m.n1 : Int) ≤ a
  · have hr := r5z o0 o1 o2 m ls ss xs l (fn (rootS lv)) a b c (.bool false)
    rw [hfx] at hr
    refine pieceF hm pCall_sound (oo5z_sound h9 _ _ _ _ _ _) hr ⟨trivial, ⟨rootS_len _, rfl, rfl⟩, ⟨Mf.lvc h rfl rfl rfl m.rest_len, by rw [hlv]; omega, by rw [hlv]⟩, trivial, ⟨Mf.lvc h rfl rfl rfl m.rest_len, hbad⟩, ⟨Mf.lvc h rfl rfl rfl m.rest_len, hbad⟩, trivial⟩ ?_
    intro e T H he hr hn hg
    cases tag1 he
    exact ⟨.inr rfl, rfl, _, hr, rfl, keep5 (by rw [hn]; show 5 ≤ 11; omega) (hg (0, _) (.head _)) (hg (1, _) (.tail _ (.head _))) (hg (2, _) (.tail _ (.tail _ (.head _)))) (hg (3, _) (.tail _ (.tail _ (.tail _ (.head _))))) (hg (4, _) (.tail _ (.tail _ (.tail _ (.tail _ (.head _))))))⟩
  · obtain ⟨j, rfl⟩ : ∃ j : Nat, a = (j : Int) := ⟨a.toNat, by omega⟩
    have hj : j < ls.length := by omega
    have hpos := wayS_pos (i := j + 1) (ls := lv) (by omega) (by omega)
    have hway := way_nd (i := j + 1) (ls := lv) (by omega)
    have hwl := wayS_len (j + 1) lv
    have hw32 := wayS_32 (i := j + 1) (ls := lv)
    generalize hwy : wayS (j + 1) lv = way at *
    have hrd := r5d o0 o1 o2 m ls ss xs lv way l.cells j (fn (rootS lv)) (j : Int) b c (.bool false)
    rw [hfx] at hrd
    have hds : ∀ H : Heap, H.get 0 = o0 → H.get 1 = o1 → H.get 2 = o2 → DsC m.toMf ls ss xs lv j way H (.agg m.all.toArray) (j : Int) := fun H g0 g1 g2 => ⟨Mf.lvc h g0 g1 g2 m.rest_len, hlv.symm, by omega, rfl, hj, hwy.symm⟩
    have hob2 : ∀ s (w : List (List Int)), sg 5 s 5 = some 5 → sg 5 s 6 = some 6 → sg 5 s 7 = some 7 → sg 5 s 8 = some 8 → sg 5 s 9 = some 9 → ∀ r10 : Nat, sg 5 s 10 = some r10 → F2 (fun (p q : Nat × AObj) => sg 5 s q.1 = some p.1 ∧ RO (sg 5 s) p.2 q.2) (([0,1,2,5,6,7,8,9,r10] : List Nat).zip (v5b o0 o1 o2 m.all l.cells (in3 (j : Int) b c) (flatD w) (bytes (rootS lv)) (j + 1) lv.length way.length)) (b5b o0 o1 o2 m.all l.cells (in3 (j : Int) b c) (flatD w) (bytes (rootS lv)) (j + 1) lv.length way.length) := fun s w e5 e6 e7 e8 e9 r10 e10 =>
      .cons ⟨rfl, hl.ro⟩ (.cons ⟨rfl, hs.ro⟩ (.cons ⟨rfl, hx.ro⟩ (.cons ⟨e5, .cells (hrv _ rfl rfl rfl rfl rfl)⟩ (.cons ⟨e6, hlr _⟩ (.cons ⟨e7, hin _⟩ (.cons ⟨e8, RO.grD (ds := w)⟩ (.cons ⟨e9, .pf (.slice e8)⟩ (.cons ⟨e10, .cells (RV.all bytes_c2)⟩ .nil))))))))
    refine pieceS hm pCall_sound (oo5a_sound _ _ _ _ _ _ _ _) 4 hrd rfl ⟨⟨Mf.lvc h rfl rfl rfl m.rest_len, by rw [hlv]; omega, by rw [hlv]⟩, ⟨⟨rfl, rfl, rfl, rfl⟩, sliC_self hw32, sliC_self hw32, by omega⟩, hds _ rfl rfl rfl, hds _ rfl rfl rfl, trivial⟩ rfl 11 [(5, 5), (6, 6), (7, 7), (8, 8), (9, 9), (10, 12)] rfl (hob2 _ way rfl rfl rfl rfl rfl 12 rfl) .nil ?_
    refine awn_seq (x := codeOf Tryz.f5 [1,1,1,1,1,1,1,0]) (y := codeOf Tryz.f5 [1,1,1,1,1,1,1,1]) ?_
    -- the end, for whatever siblings
    have fin : ∀ (w : List (List Int)) (T : List Value) (H : Heap) (D : Defs), (∀ d ∈ w, d.length = 32) → w.length = way.length → Nrm Tryz.prog 5 T H D T5b (H5b o0 o1 o2 m.all l.cells (in3 (j : Int) b c) (flatD w) (bytes (rootS lv)) (j + 1) lv.length way.length) [] →
        Awn Tryz.prog 5 (codeOf Tryz.f5 [1,1,1,1,1,1,1,1]) (EndF Tryz.f5 ⟨5, [(0, o0), (1, o1), (2, o2)]⟩) T H D := by
      intro w T H D w32 wl hN
      refine awn_nrm hN ?_
      obtain ⟨ha, hcp, ho⟩ := hl.pos (by omega)
      have hi : ls[j]? = some ls[j] := List.getElem?_eq_getElem hj
      obtain ⟨hp1, hp2⟩ := flat_part Ln.cells 38 ls (fun x _ => x.len) j _ hi
      generalize ls[j] = l2 at *
      have hr := r5g (ls.flatMap Ln.cells) (flatD w) o1 o2 m l l2 (fn (rootS lv)) w (j : Int) b c (j + 1) lv.length way.length (decide (applyS (j + 1) lv.length w l.leaf = rootS lv)) (decide (applyS (j + 1) lv.length w l2.leaf = rootS lv))
      rw [hfx, Mg.at0_eq ha hcp] at hr
      have hz : 0 + (j : Int).toNat * 38 = j * 38 := by rw [Int.toNat_natCast]; omega
      rw [hz] at hr
      rw [ho]
      have hpv : ∀ l' : Ln, PvC (j + 1) lv.length w l' (rootS lv) (decide (applyS (j + 1) lv.length w l'.leaf = rootS lv)) (dig (rootS lv)) (.agg l'.cells.toArray) ((j + 1 : Nat) : Int) (lv.length : Int) way.length 0 (flatD w) := fun l' =>
        ⟨rootS_len _, rfl, rfl, by rw [← wl]; exact sliC_self w32, rfl, rfl, by omega, by omega, by omega, by rw [wl]; exact hway.symm, by omega, decide_eq_true_iff⟩
      refine pieceF hm pCall_sound (oo5c_sound h9 _ _ _ _ _ _ _ _) hr ⟨trivial, by simp, hpv _, ldC_agg agg37 siz37 hp2 hp1, ⟨by omega, by omega⟩, hpv _, ldC_agg agg37 siz37 hp2 hp1, ⟨by omega, by omega⟩, by simp, hpv _, hpv _, trivial⟩ ?_
      intro e T H he hr hn hg
      cases tag1 he
      exact ⟨.inr rfl, rfl, _, hr, rfl, keep5 (by rw [hn]; show 5 ≤ 11; omega) (hg (0, _) (.head _)) (hg (1, _) (.tail _ (.head _))) (hg (2, _) (.tail _ (.tail _ (.head _)))) (hg (3, _) (.tail _ (.tail _ (.tail _ (.head _))))) (hg (4, _) (.tail _ (.tail _ (.tail _ (.tail _ (.head _))))))⟩
    cases hb1 : (IntKind.i64.wrap (((BitVec.ofInt IntKind.i64.bits b &&& BitVec.ofInt IntKind.i64.bits 3).toNat : Nat) : Int) == 0) with
    | false =>
      refine pieceE hm pCall_sound (oo5b_sound _ _ _ _) (r5e o0 o1 o2 m.all l.cells (flatD way) (bytes (rootS lv)) (j : Int) b c (j + 1) lv.length way.length) ⟨by rw [An5, hb1], trivial⟩ rfl 11 [(5, 5), (6, 6), (7, 7), (8, 8), (9, 9), (10, 10)] rfl (hob2 _ way rfl rfl rfl rfl rfl 10 rfl) .nil ?_
      intro T H D hN
      exact fin way T H D hw32 rfl hN
    | true =>
      cases way with
      | nil => simp at hpos
      | cons d rest =>
        have hd := hw32 d (List.mem_cons_self ..)
        have hq32 := q5_lt c
        obtain ⟨y, hy⟩ : ∃ y, d[q5 c]? = some y := ⟨d[q5 c], List.getElem?_eq_getElem (by omega)⟩
        have hr := r5f o0 o1 o2 m.all l.cells (flatD (d :: rest)) (bytes (rootS lv)) (j : Int) b c y (x5 y) (j + 1) lv.length (d :: rest).length (q5 c)
        rw [flip1 hd hq32] at hr
        have hfl := flatD_len hw32
        have e : (0 + 0 * 32 + q5 c * 1) = q5 c := by omega
        refine pieceE hm pCall_sound (oo5b_sound _ _ _ _) hr ⟨⟨rfl, by rw [hfl, e, List.length_cons]; omega, rfl⟩, ⟨by omega, by omega⟩, ⟨by omega, by omega⟩, rfl, ?_, ⟨by omega, by omega⟩, ⟨by omega, by omega⟩, by rw [wrapI (by omega) (by omega)], by rw [decide_eq_true (by omega)], by rw [An5, hb1], trivial⟩ rfl 11 [(5, 5), (6, 6), (7, 7), (8, 8), (9, 9), (10, 10)] rfl (hob2 _ (d.set (q5 c) (x5 y) :: rest) rfl rfl rfl rfl rfl 10 rfl) .nil ?_
        · rw [e]
          refine ldC_u8 ?_
          rw [show flatD (d :: rest) = bytes d ++ flatD rest from rfl, List.getElem?_append_left (by rw [bytes_len]; omega), bytes, List.getElem?_map, hy]
          rfl
        intro T H D hN
        refine fin (d.set (q5 c) (x5 y) :: rest) T H D (fun z hz => ?_) (by simp) hN
        rcases List.mem_cons.1 hz with rfl | hz
        · rw [List.length_set]; exact hd
        · exact hw32 z (List.mem_cons_of_mem _ hz)
end Go.Abs

