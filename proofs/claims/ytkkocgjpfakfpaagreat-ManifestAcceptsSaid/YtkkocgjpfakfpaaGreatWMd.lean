/- For every manifest, seed and index the statements ManifestSigns and ManifestAccepts of law 40 hold, with no condition. -/
import Derived.Test.YtkkocgjpfakfpaaGreatWMc
set_option linter.unusedSimpArgs false
set_option linter.unusedVariables false
namespace Go.Abs
open Go.Proofs
set_option maxRecDepth 1000000

theorem rl_c2 {r : List Int} {l : Ln} : ∀ v ∈ [dig r, .agg l.cells.toArray], c2 v = true := fun v hv => by
  rcases List.mem_cons.1 hv with rfl | hv
  · exact dig_c2 r
  · cases List.mem_singleton.1 hv; exact l.c2
theorem leaf_len (l : Ln) : l.leaf.length = 32 := sumS_len _ _
noncomputable def oo18 (i n : Nat) (ss : List (List Int)) (l : Ln) (f g : Nat → Int) (b : Bool) : OpO := orO (callO Tryz.prog (oneC 32 (leafF l f))) (callO Tryz.prog (oneC 44 (vfG i n ss (dgf f) (dgf g) b)))
theorem oo18_sound (i n : Nat) (ss : List (List Int)) (l : Ln) (f g : Nat → Int) (b : Bool) : SoundO Tryz.prog (oo18 i n ss l f g b) := orO_sound (callO_sound (leafF32 _ _)) (callO_sound (vf44 _ _ _ _ _ _))
theorem r18 (cs : List Value) (l : Ln) (f g : Nat → Int) (n i k : Nat) (ss : List (List Int)) (b : Bool) : (ex3 Tryz.prog pCall (oo18 i n ss l f g b) 60 (codeOf Tryz.f18 []) ⟨⟨[dig (dgf g), .agg l.cells.toArray, pv i n (sl 0 k)] ++ List.replicate 10 undef, ⟨1, [(0, .ro cs)]⟩, []⟩, True⟩).map (fin3 Tryz.prog Tryz.f18 [0])
  = some (⟨1, some (.bool b), 5, [.ro cs], [(43, [pt 4])]⟩, VfC i n ss (dgf f) (dgf g) b (dig (dgf g)) (dig (dgf f)) (i : Int) (n : Int) k 0 cs ∧ LfC l f (.agg l.cells.toArray) ∧ True) := by kernel_rfl
theorem r18z (l : Ln) (f g : Nat → Int) : (ex3 Tryz.prog pCall (oo18 0 0 [] l f g true) 60 (codeOf Tryz.f18 []) ⟨⟨[dig (dgf g), .agg l.cells.toArray, pv 0 0 nilS] ++ List.replicate 10 undef, ⟨0, []⟩, []⟩, True⟩).map (fin3 Tryz.prog Tryz.f18 [])
  = some (⟨1, some (.bool false), 4, [], [(43, [pt 3])]⟩, ((dgf g).length = 32 ∧ (dgf f).length = 32 ∧ dig (dgf g) = dig (dgf g) ∧ dig (dgf f) = dig (dgf f)) ∧ LfC l f (.agg l.cells.toArray) ∧ True) := by kernel_rfl
theorem does18 {ss : List (List Int)} {r : List Int} {l : Ln} {i n : Nat} {b : Bool} (hs : ∀ d ∈ ss, d.length = 32) (hr : r.length = 32) (h1 : 1 ≤ n) (hb : n ≤ 63) (hi : i < n) (hnd : ndS n i n = ss.length) (hsl : ss.length ≤ 100) (hbb : b = true ↔ applyS i n ss l.leaf = r) :
    Does Tryz.prog 18 [dig r, .agg l.cells.toArray, pv i n (sl 0 ss.length)] ⟨1, [(0, .ro (flatD ss))]⟩ (.bool b) ⟨1, [(0, .ro (flatD ss))]⟩ := by
  refine val_of_awp Tryz.func18 (c := codeOf Tryz.f18 []) rfl rfl (awp_of_awn (n := 1) ?_ (Nat.le_refl _))
  have hrr := r18 (flatD ss) l (fn l.leaf) (fn r) n i ss.length ss b
  have hlf : dgf (fn l.leaf) = l.leaf := dgf_of (leaf_len l)
  rw [hlf, show dgf (fn r) = r from dgf_of hr] at hrr
  refine pieceF hm pCall_sound (oo18_sound _ _ _ _ _ _ _) hrr ⟨⟨hr, rfl, ⟨leaf_len l, rfl, sliC_self hs, rfl, rfl, h1, hb, hi, hnd, hsl, rfl⟩, hbb⟩, ⟨hlf, rfl⟩, trivial⟩ ?_
  intro e T H he hr hn hg
  cases tag1 he
  exact ⟨.inr rfl, rfl, _, hr, rfl, keep1 (by rw [hn]; show 1 ≤ 5; omega) (hg (0, _) (.head _))⟩
theorem does18z {r : List Int} {l : Ln} (hr : r.length = 32) (H : Heap) : Does Tryz.prog 18 [dig r, .agg l.cells.toArray, pv 0 0 nilS] H (.bool false) H := by
  refine frame_val (H' := ⟨0, []⟩) (val_of_awp Tryz.func18 (c := codeOf Tryz.f18 []) rfl rfl (awp_of_awn (n := 0) ?_ (Nat.le_refl _))) rfl (imp_zero (r := [dig r, .agg l.cells.toArray]) rl_c2)
  have hrr := r18z l (fn l.leaf) (fn r)
  have hlf : dgf (fn l.leaf) = l.leaf := dgf_of (leaf_len l)
  rw [hlf, show dgf (fn r) = r from dgf_of hr] at hrr
  refine pieceF hm pCall_sound (oo18_sound _ _ _ _ _ _ _) hrr ⟨⟨hr, leaf_len l, rfl, rfl⟩, ⟨hlf, rfl⟩, trivial⟩ ?_
  intro e T H he hr hn hg
  cases tag1 he
  exact ⟨.inr rfl, rfl, _, hr, rfl, keep0 _⟩
/-- Lines proved, by contract. -/
structure PvC (i n : Nat) (ss : List (List Int)) (l : Ln) (r : List Int) (bb : Bool) (v v' : Value) (a b : Int) (k off : Nat) (cs : List Value) : Prop where
  hr : r.length = 32
  hv : v = dig r
  hl : v' = .agg l.cells.toArray
  hs : SliC ss k off cs
  ha : a = (i : Int)
  hb : b = (n : Int)
  n1 : 1 ≤ n
  n2 : n ≤ 63
  hi : i < n
  nd : ndS n i n = ss.length
  hsl : ss.length ≤ 100
  hbb : bb = true ↔ applyS i n ss l.leaf = r
def pvG (i n : Nat) (ss : List (List Int)) (l : Ln) (r : List Int) (bb : Bool) : List Value → Heap → Option CallR := fun args H => match args with
  | [v, v', .agg ⟨[.int .i64 a, .int .i64 b, .slice (some ⟨id, off, none⟩) k _]⟩] => (match H.row id with
    | some cs => some (.same (.bool bb) (PvC i n ss l r bb v v' a b k off cs))
    | none => none)
  | [v, v', .agg ⟨[.int .i64 0, .int .i64 0, .slice none 0 0]⟩] => some (.same (.bool false) (r.length = 32 ∧ v = dig r ∧ v' = .agg l.cells.toArray))
  | _ => none
theorem pv18 (i n : Nat) (ss : List (List Int)) (l : Ln) (r : List Int) (bb : Bool) : SoundC Tryz.prog (oneC 18 (pvG i n ss l r bb)) := oneC_sound fun args H q h => by
  unfold pvG at h
  split at h
  · rename_i v v' a b id off k' c
    split at h
    case h_2 => cases h
    rename_i cs hr
    cases h
    intro hc
    obtain ⟨h0, rfl, rfl, h3, rfl, rfl, h6, h7, h8, h9, h10, hbb⟩ := hc
    exact frame_val (does18 h3.1 h0 h6 h7 h8 h9 h10 hbb) rfl (imp_proof (r := [dig r, .agg l.cells.toArray]) rl_c2 hr h3)
  · cases h
    rintro ⟨h1, rfl, rfl⟩
    exact does18z h1 H
  · cases h
noncomputable def oo15 (b1 b2 : Bool) (m : Mf) (ls : List Ln) (ss : List Sr) (xs : List Ct) (lv : List (List Int)) (j : Nat) (way : List (List Int)) : OpO := orO (forceO Tryz.prog 8 (.bool b1)) (orO (forceO Tryz.prog 14 (.bool b2)) (orO (callO Tryz.prog (oneC 10 (lvP m ls ss xs lv))) (orO (forceO Tryz.prog 20 (i64 (j : Int))) (callO Tryz.prog (oneC 41 (prG lv j way))))))
theorem oo15_sound (b1 b2 : Bool) (m : Mf) (ls : List Ln) (ss : List Sr) (xs : List Ct) (lv : List (List Int)) (j : Nat) (way : List (List Int)) : SoundO Tryz.prog (oo15 b1 b2 m ls ss xs lv j way) := orO_sound forceO_sound (orO_sound forceO_sound (orO_sound (callO_sound (lvP10 _ _ _ _ _)) (orO_sound forceO_sound (callO_sound (pr41 _ _ _)))))
theorem r15 (o0 o1 o2 : AObj) (m : Mf) (ls : List Ln) (ss : List Sr) (xs : List Ct) (lv way : List (List Int)) (z : Int) (j : Nat) : (ex3 Tryz.prog pCall (oo15 false false m ls ss xs lv j way) 60 (codeOf Tryz.f15 []) ⟨⟨[.agg (m.mc jks).toArray, i64 z] ++ List.replicate 22 undef, ⟨3, [(0, o0), (1, o1), (2, o2)]⟩, []⟩, True⟩).map (fin3 Tryz.prog Tryz.f15 [0,1,2,7])
  = some (⟨1, some (ctP (j : Int) (lv.length : Int) (sl 7 way.length)), 8, [o0, o1, o2, grD way], [(40, [pt 4, pt 5])]⟩,
    (SliC lv lv.length 0 (flatD lv) ∧ 2 ≤ lv.length ∧ lv.length ≤ 63 ∧ (j : Int) = (j : Int) ∧ j < lv.length ∧ way = wayS j lv) ∧ some (i64 (IntKind.i64.wrap (1 + z))) = some (i64 (j : Int)) ∧ (LvC m ls ss xs ⟨6, [(5, .cells [i64 0] 43), (4, z29), (3, .cells (m.mc jks) 33), (0, o0), (1, o1), (2, o2)]⟩ (.agg (m.mc jks).toArray) ∧ lv = leaves m ls ss xs) ∧ some (Value.bool (decide (z ≥ (m.n1 : Int)))) = some (Value.bool false) ∧ some (Value.bool (decide (z < 0))) = some (Value.bool false) ∧ True) := by kernel_rfl
theorem r15y (o0 o1 o2 : AObj) (m : Mf) (z : Int) : (ex3 Tryz.prog pCall (oo15 true false m [] [] [] [] 0 []) 60 (codeOf Tryz.f15 []) ⟨⟨[.agg (m.mc jks).toArray, i64 z] ++ List.replicate 22 undef, ⟨3, [(0, o0), (1, o1), (2, o2)]⟩, []⟩, True⟩).map (fin3 Tryz.prog Tryz.f15 [0,1,2])
  = some (⟨1, some zpV, 6, [o0, o1, o2], [(40, [pt 4, pt 5])]⟩, some (Value.bool (decide (z < 0))) = some (Value.bool true) ∧ True) := by kernel_rfl
theorem r15z (o0 o1 o2 : AObj) (m : Mf) (z : Int) : (ex3 Tryz.prog pCall (oo15 false true m [] [] [] [] 0 []) 60 (codeOf Tryz.f15 []) ⟨⟨[.agg (m.mc jks).toArray, i64 z] ++ List.replicate 22 undef, ⟨3, [(0, o0), (1, o1), (2, o2)]⟩, []⟩, True⟩).map (fin3 Tryz.prog Tryz.f15 [0,1,2])
  = some (⟨1, some zpV, 6, [o0, o1, o2], [(40, [pt 4, pt 5])]⟩, some (Value.bool (decide (z ≥ (m.n1 : Int)))) = some (Value.bool true) ∧ some (Value.bool (decide (z < 0))) = some (Value.bool false) ∧ True) := by kernel_rfl
theorem does15 {o0 o1 o2 : AObj} {m : Mf} {ls : List Ln} {ss : List Sr} {xs : List Ct} {j : Nat} (h : m.ok o0 o1 o2 ls ss xs) (hb : (leaves m ls ss xs).length ≤ 63) (hj : j < ls.length) :
    Does Tryz.prog 15 [.agg (m.mc jks).toArray, i64 (j : Int)] ⟨3, [(0, o0), (1, o1), (2, o2)]⟩ (ctP ((j + 1 : Nat) : Int) ((leaves m ls ss xs).length : Int) (sl 3 (wayS (j + 1) (leaves m ls ss xs)).length)) ((⟨3, [(0, o0), (1, o1), (2, o2)]⟩ : Heap).push (grD (wayS (j + 1) (leaves m ls ss xs)))) := by
  have hl := leaves_len m ls ss xs
  have hn1 := h.l.n
  refine ctx_of_awp (ct := ctP ((j + 1 : Nat) : Int) ((leaves m ls ss xs).length : Int)) (fun E s v' => ctP_inv _ _ E s v') (fun E s s' => ctP_mk _ _ E s s') (H := ⟨3, [(0, o0), (1, o1), (2, o2)]⟩) Tryz.func15 (c := codeOf Tryz.f15 []) rfl flatD_c2 (awp_of_awn (n := 3) ?_ (Nat.le_refl _))
  have hr := r15 o0 o1 o2 m ls ss xs (leaves m ls ss xs) (wayS (j + 1) (leaves m ls ss xs)) (j : Int) (j + 1)
  refine pieceF hm pCall_sound (oo15_sound _ _ _ _ _ _ _ _ _) hr ⟨⟨sliC_self leaves_32, by omega, hb, rfl, by omega, rfl⟩, by rw [wrap_1k (by omega)], ⟨Mf.lvc h rfl rfl rfl rfl, rfl⟩, by rw [decide_eq_false (by omega)], by rw [decide_eq_false (by omega)], trivial⟩ ?_
  intro e T H he hr hn hg
  cases tag1 he
  exact ⟨.inr rfl, rfl, _, hr, ⟨7, rfl, by show 3 ≤ 7; omega, hg (7, _) (.tail _ (.tail _ (.tail _ (.head _))))⟩, keep3 (by rw [hn]; show 3 ≤ 8; omega) (hg (0, _) (.head _)) (hg (1, _) (.tail _ (.head _))) (hg (2, _) (.tail _ (.tail _ (.head _))))⟩
theorem does15z {o0 o1 o2 : AObj} {m : Mf} {z : Int} (hz : z < 0 ∨ (m.n1 : Int) ≤ z) : Does Tryz.prog 15 [.agg (m.mc jks).toArray, i64 z] ⟨3, [(0, o0), (1, o1), (2, o2)]⟩ zpV ⟨3, [(0, o0), (1, o1), (2, o2)]⟩ := by
  refine cl_of_awp Tryz.func15 (c := codeOf Tryz.f15 []) rfl (fun E v' => zpV_inv) (fun E => zpV_mk) (awp_of_awn (n := 3) ?_ (Nat.le_refl _))
  by_cases h0 : z < 0
  · refine pieceF hm pCall_sound (oo15_sound _ _ _ _ _ _ _ _ _) (r15y o0 o1 o2 m z) ⟨by rw [decide_eq_true h0], trivial⟩ ?_
    intro e T H he hr hn hg
    cases tag1 he
    exact ⟨.inr rfl, rfl, _, hr, rfl, keep3 (by rw [hn]; show 3 ≤ 6; omega) (hg (0, _) (.head _)) (hg (1, _) (.tail _ (.head _))) (hg (2, _) (.tail _ (.tail _ (.head _))))⟩
  · refine pieceF hm pCall_sound (oo15_sound _ _ _ _ _ _ _ _ _) (r15z o0 o1 o2 m z) ⟨by rw [decide_eq_true (by omega)], by rw [decide_eq_false h0], trivial⟩ ?_
    intro e T H he hr hn hg
    cases tag1 he
    exact ⟨.inr rfl, rfl, _, hr, rfl, keep3 (by rw [hn]; show 3 ≤ 6; omega) (hg (0, _) (.head _)) (hg (1, _) (.tail _ (.head _))) (hg (2, _) (.tail _ (.tail _ (.head _))))⟩
/-- Proofs disclosed, by contract. -/
structure DsC (m : Mf) (ls : List Ln) (ss : List Sr) (xs : List Ct) (lv : List (List Int)) (j : Nat) (way : List (List Int)) (H : Heap) (v : Value) (z : Int) : Prop where
  hv : LvC m ls ss xs H v
  hl : lv = leaves m ls ss xs
  hb : lv.length ≤ 63
  hz : z = (j : Int)
  hj : j < ls.length
  hw : way = wayS (j + 1) lv
def dsG (m : Mf) (ls : List Ln) (ss : List Sr) (xs : List Ct) (lv : List (List Int)) (j : Nat) (way : List (List Int)) : List Value → Heap → Option CallR := fun args H => match args with
  | [v, .int .i64 z] => some (.eff (ctP ((j + 1 : Nat) : Int) (lv.length : Int) (sl H.next way.length)) (H.push (grD way)) (DsC m ls ss xs lv j way H v z))
  | _ => none
def dsZ (m : Mf) (ls : List Ln) (ss : List Sr) (xs : List Ct) : List Value → Heap → Option CallR := fun args H => match args with
  | [v, .int .i64 z] => some (.same zpV (LvC m ls ss xs H v ∧ (z < 0 ∨ (m.n1 : Int) ≤ z)))
  | _ => none
theorem lv_imp2 {m : Mf} {ls : List Ln} {ss : List Sr} {xs : List Ct} {H : Heap} {v : Value} (z : Int) (h : LvC m ls ss xs H v) : ∃ (m0 : Mf) (o0 o1 o2 : AObj), m0.ok o0 o1 o2 ls ss xs ∧ leaves m0 ls ss xs = leaves m ls ss xs ∧ m0.n1 = m.n1 ∧ Imp Tryz.prog [v, i64 z] H [.agg (m0.mc jks).toArray, i64 z] ⟨3, [(0, o0), (1, o1), (2, o2)]⟩ := by
  obtain ⟨rest, hrest, rfl⟩ := h.v
  obtain ⟨a1, c1, o0, s0, h1, r1, q1⟩ := slh_sl h.l 0
  obtain ⟨a2, c2, o1, s1, h2, r2, q2⟩ := slh_sl h.s 1
  obtain ⟨a3, c3, o2, s2, h3, r3, q3⟩ := slh_sl h.x 2
  refine ⟨⟨m.p, m.d, a1, m.n1, c1, a2, m.n2, c2, a3, m.n3, c3⟩, o0, o1, o2, ⟨h1, h2, h3, h.bl, h.bs, h.bx⟩, rfl, rfl, ?_⟩
  generalize hS : (fun j => if j = 0 then s0 else if j = 1 then s1 else if j = 2 then s2 else none : Part) = S
  have e0 : S 0 = s0 := by rw [← hS]; rfl
  have e1 : S 1 = s1 := by rw [← hS]; rfl
  have e2 : S 2 = s2 := by rw [← hS]; rfl
  refine imp_gen S (fun j x hj => ?_) (.cons (RI.agg ?_) (.cons (.closed rfl) .nil)) (fun p hp => ?_)
  · rw [← hS] at hj
    by_cases e0 : j = 0
    · omega
    · by_cases e1 : j = 1
      · omega
      · by_cases e2 : j = 2
        · omega
        · simp [e0, e1, e2] at hj
  · exact .cons (.closed rfl) (.cons (.closed rfl) (.cons (r1 _ e0) (.cons (r2 _ e1) (.cons (r3 _ e2) (ri_jks hrest)))))
  · rcases List.mem_cons.1 hp with rfl | hp
    · exact q1 S e0
    · rcases List.mem_cons.1 hp with rfl | hp
      · exact q2 S e1
      · cases List.mem_singleton.1 hp
        exact q3 S e2
theorem ds15 (m : Mf) (ls : List Ln) (ss : List Sr) (xs : List Ct) (lv : List (List Int)) (j : Nat) (way : List (List Int)) : SoundC Tryz.prog (oneC 15 (dsG m ls ss xs lv j way)) := oneC_sound fun args H r h => by
  unfold dsG at h
  split at h
  case h_2 => cases h
  cases h
  rintro ⟨hc, rfl, hb, rfl, hj, rfl⟩
  obtain ⟨m0, o0, o1, o2, hok, hl, _, himp⟩ := lv_imp2 (j : Int) hc
  rw [← hl] at hb ⊢
  exact frame_ctx (ct := ctP ((j + 1 : Nat) : Int) ((leaves m0 ls ss xs).length : Int)) (fun E s v' => ctP_inv _ _ E s v') (fun E s s' => ctP_mk _ _ E s s') (does15 hok hb hj) rfl flatD_c2 himp
theorem dz15 (m : Mf) (ls : List Ln) (ss : List Sr) (xs : List Ct) : SoundC Tryz.prog (oneC 15 (dsZ m ls ss xs)) := oneC_sound fun args H r h => by
  unfold dsZ at h
  split at h
  case h_2 => cases h
  rename_i v z
  cases h
  rintro ⟨hc, hz⟩
  obtain ⟨m0, o0, o1, o2, hok, hl, hn, himp⟩ := lv_imp2 z hc
  exact frame_cl (does15z (by rw [hn]; exact hz)) (fun E v' => zpV_inv) (fun E => zpV_mk) himp
end Go.Abs

namespace Go.Abs
open Go.Proofs
set_option maxRecDepth 1000000

/-- An oracle at one place alone. -/
def atO (d : Nat) (OO : OpO) : OpO := fun o ρ H => match o.dst with
  | some d' => bif Nat.beq d' d then OO o ρ H else none
  | none => none
theorem atO_eq {d : Nat} {OO : OpO} {o : Oper} {ρ : Operand → Value} {H : Heap} {r : OpR} (h : atO d OO o ρ H = some r) : OO o ρ H = some r := by
  unfold atO at h
  split at h
  case h_2 => cases h
  exact (cond_opt h).2
theorem atO_sound {P : Program} {d : Nat} {OO : OpO} (h : SoundO P OO) : SoundO P (atO d OO) :=
  ⟨fun o ρ H v ob c k => h.fr o ρ H v ob c (atO_eq k), fun o ρ H v c k => h.rd o ρ H v c (atO_eq k), fun o ρ H v c k => h.pure o ρ H v c (atO_eq k), fun o ρ H v c k => h.same o ρ H v c (atO_eq k), fun o ρ H v H' c k => h.eff o ρ H v H' c (atO_eq k)⟩

def Mg.at0 (m : Mg) : Mg := { m with a1 := some ⟨0, 0, none⟩, c1 := capG }
theorem Mg.at0_eq {m : Mg} (h1 : m.a1 = some ⟨0, 0, none⟩) (h2 : m.c1 = capG) : m.at0 = m := by
  obtain ⟨⟨p, d, a1, n1, c1, a2, n2, c2, a3, n3, c3⟩, rt, si, a4, n4, c4, pi, pc, a5, n5, c5⟩ := m
  simp only at h1 h2
  subst h1 h2
  rfl
abbrev b5 (o0 o1 o2 : AObj) (mc l i3 : List Value) : List (Nat × AObj) := [(0, o0), (1, o1), (2, o2), (5, .cells mc 33), (6, .cells l 37), (7, .cells i3 47)]
abbrev q5 (c : Int) : Nat := (BitVec.ofInt IntKind.i64.bits c &&& BitVec.ofInt IntKind.i64.bits 31).toNat
end Go.Abs

