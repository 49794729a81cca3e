/- For every manifest, seed and index the statements ManifestSigns and ManifestAccepts of law 40 hold, with no condition. -/
import Derived.Test.YtkkocgjpfakfpaaGreatWMd
set_option linter.unusedSimpArgs false
set_option linter.unusedVariables false
namespace Go.Abs
open Go.Proofs
set_option maxRecDepth 1000000

-- numbers of one byte behind another
def intsV (c : Int) : List Value → Heap → Option CallR := fun args H => match args with
  | [.slice none 0 0, .slice (some ⟨id, 0, none⟩) 1 _] => match H.row id with
    | some [.int .i64 n] => some (.eff (sl H.next 1) (H.push (gr (bytes [c]))) ([c] = vint n))
    | _ => none
  | _ => none
theorem intsV_sound (c : Int) : SoundC Tryz.prog (oneC 181 (intsV c)) := oneC_sound fun args H r h => by
  unfold intsV at h
  split at h
  case h_2 => cases h
  rename_i id cp
  split at h
  case h_2 => cases h
  rename_i n hr
  cases h
  intro hv
  have := frame_new (does181 n) rfl bytes_c2 (imp_slice (P := Tryz.prog) (c := cp) (off := 0) (n := 1) (ws := [i64 n]) (pre := [nilS]) (post := []) (m := 1) rfl rfl hr rfl (by simp) (fun v hv => by simp at hv; subst hv; rfl))
  rw [← hv] at this
  exact this
noncomputable def oo124b (c : Int) : OpO := orO (callO Tryz.prog (oneC 181 (intsV c))) (callO Tryz.prog (inC Tryz.prog pCall (appO Tryz.prog 12) 30 [150]))
theorem oo124b_sound (c : Int) : SoundO Tryz.prog (oo124b c) := orO_sound (callO_sound (intsV_sound c)) (callO_sound (inC_sound hm pCall_sound appO_sound))
theorem r124b (n b c : Int) : (ex3 Tryz.prog pCall (oo124b c) 30 (codeOf Tryz.f124 []) ⟨⟨[sl 0 1, i64 n] ++ List.replicate 8 undef, ⟨1, [(0, .ro [.int .u8 b])]⟩, []⟩, True⟩).map (fin3 Tryz.prog Tryz.f124 [0,3])
  = some (⟨1, some (sl 3 2), 4, [.ro [.int .u8 b], gr (bytes [b, c])], [(180, [])]⟩, True ∧ [c] = vint n ∧ True) := by kernel_rfl
theorem does124b (n b c : Int) (h : vint n = [c]) : Does Tryz.prog 124 [sl 0 1, i64 n] ⟨1, [(0, .ro [.int .u8 b])]⟩ (.slice (some ⟨1, 0, none⟩) 2 capG) ((⟨1, [(0, .ro [.int .u8 b])]⟩ : Heap).push (gr (bytes [b, c]))) := by
  refine new_of_awp Tryz.func124 (c := codeOf Tryz.f124 []) rfl bytes_c2 (awp_of_awn (n := 1) ?_ (Nat.le_refl _))
  refine pieceF hm pCall_sound (oo124b_sound c) (r124b n b c) ⟨trivial, h.symm, trivial⟩ ?_
  intro e T H he hr hn hg
  cases tag1 he
  exact ⟨.inr rfl, quiet180, _, hr, ⟨3, rfl, by show 1 ≤ 3; omega, hg (3, _) (.tail _ (.head _))⟩, keep1 (by rw [hn]; show 1 ≤ 4; omega) (hg (0, _) (.head _))⟩
/-- The first number, and the second behind it. -/
def vs2 (b c : Int) : List Value → Heap → Option CallR := fun args H => match args with
  | [.slice none 0 0, .int .i64 n] => some (.eff (sl H.next 1) (H.push (gr (bytes [b]))) ([b] = vint n))
  | [.slice (some ⟨id, 0, none⟩) 1 _, .int .i64 n] => (match H.row id with
    | some [.int .u8 b'] => some (.eff (sl H.next 2) (H.push (gr (bytes [b, c]))) (b' = b ∧ [c] = vint n))
    | _ => none)
  | _ => none
theorem vs2_sound (b c : Int) : SoundC Tryz.prog (oneC 124 (vs2 b c)) := oneC_sound fun args H r h => by
  unfold vs2 at h
  split at h
  · rename_i n
    cases h
    intro hv
    have := frame_new (does124 n) rfl bytes_c2 (imp_closed (P := Tryz.prog) H rfl)
    rw [← hv] at this
    exact this
  · rename_i id cp n
    split at h
    case h_2 => cases h
    rename_i b' hr
    cases h
    rintro ⟨rfl, hv⟩
    exact frame_new (does124b n b' c hv.symm) rfl bytes_c2 (imp_slice (P := Tryz.prog) (c := cp) (off := 0) (n := 1) (ws := [.int .u8 b']) (pre := []) (post := [i64 n]) (m := 1) rfl rfl hr rfl (by simp) (fun v hv => by simp at hv; subst hv; rfl))
  · cases h

-- a key's beginnings
def begS (d : List Int) (i j : Nat) : List Int := sumS 391 (d ++ (vint (i : Int) ++ vint (j : Int)))
theorem begS_len (d : List Int) (i j : Nat) : (begS d i j).length = 32 := sumS_len _ _
theorem r91 (f : Nat → Int) (i j : Nat) (b c : Int) : (ex3 Tryz.prog kC (callO Tryz.prog (oneC 124 (vs2 b c))) 60 (codeOf Tryz.f91 []) ⟨⟨[dig (dgf f), i64 (i : Int), i64 (j : Int)] ++ List.replicate 12 undef, ⟨0, []⟩, []⟩, True⟩).map (fin3 Tryz.prog Tryz.f91 [])
  = some (⟨1, some (dig (sumS 391 (dgf f ++ [b, c]))), 10, [], []⟩, (b = b ∧ [c] = vint (j : Int)) ∧ some (dig (dgf f)) = some (dig (dgf f)) ∧ [b] = vint (i : Int) ∧ True) := by kernel_rfl
noncomputable def oo94 (b c : Int) : OpO := orO (atO 9 (callO Tryz.prog (oneC 129 (vsH [b])))) (orO (atO 11 (callO Tryz.prog (oneC 129 (vsH [c])))) (appO Tryz.prog 12))
theorem oo94_sound (b c : Int) : SoundO Tryz.prog (oo94 b c) := orO_sound (atO_sound (callO_sound (vsH_sound _))) (orO_sound (atO_sound (callO_sound (vsH_sound _))) appO_sound)
theorem r94 (f : Nat → Int) (i j : Nat) (b c : Int) : (ex3 Tryz.prog kC (oo94 b c) 60 (codeOf Tryz.f94 []) ⟨⟨[dig (dgf f), i64 (i : Int), i64 (j : Int)] ++ List.replicate 11 undef, ⟨0, []⟩, []⟩, True⟩).map (fin3 Tryz.prog Tryz.f94 [])
  = some (⟨1, some (dig (sumS 391 (dgf f ++ [b, c]))), 74, [], []⟩, AppC 1 0 1 5 5 0 capG 1 1 0 [.int .u8 b] [.int .u8 c] ∧ some (dig (dgf f)) = some (dig (dgf f)) ∧ [c] = vint (j : Int) ∧ some (dig (dgf f)) = some (dig (dgf f)) ∧ [b] = vint (i : Int) ∧ some (dig (dgf f)) = some (dig (dgf f)) ∧ True) := by kernel_rfl
theorem beg_c2 {d : List Int} {a b : Int} : [dig d, i64 a, i64 b].all c2 = true := by
  show (c2 (dig d) && (c2 (i64 a) && (c2 (i64 b) && true))) = true
  rw [dig_c2]
  rfl
theorem does91 (d : List Int) (hd : d.length = 32) (i j : Nat) (hi : i ≤ 63) (hj : j ≤ 63) (H : Heap) : Does Tryz.prog 91 [dig d, i64 (i : Int), i64 (j : Int)] H (dig (begS d i j)) H := by
  refine Does.closed (H' := ⟨0, []⟩) (val_of_awp Tryz.func91 (c := codeOf Tryz.f91 []) rfl (dig_c2 _) (awp_of_awn (n := 0) ?_ (Nat.le_refl _))) beg_c2 (dig_c2 _) H
  obtain ⟨b, hb⟩ := vint_small hi
  obtain ⟨c, hc⟩ := vint_small hj
  have hr := r91 (fn d) i j b c
  rw [show dgf (fn d) = d from dgf_of hd] at hr
  refine pieceF hm kC_sound (callO_sound (vs2_sound b c)) hr ⟨⟨rfl, hc.symm⟩, rfl, hb.symm, trivial⟩ ?_
  intro e T H he hr hn hg
  cases tag1 he
  exact ⟨.inr rfl, rfl, _, hr, by rw [begS, hb, hc]; rfl, keep0 _⟩
theorem does94 (d : List Int) (hd : d.length = 32) (i j : Nat) (hi : i ≤ 63) (hj : j ≤ 63) (H : Heap) : Does Tryz.prog 94 [dig d, i64 (i : Int), i64 (j : Int)] H (dig (begS d i j)) H := by
  refine Does.closed (H' := ⟨0, []⟩) (val_of_awp Tryz.func94 (c := codeOf Tryz.f94 []) rfl (dig_c2 _) (awp_of_awn (n := 0) ?_ (Nat.le_refl _))) beg_c2 (dig_c2 _) H
  obtain ⟨b, hb⟩ := vint_small hi
  obtain ⟨c, hc⟩ := vint_small hj
  have hr := r94 (fn d) i j b c
  rw [show dgf (fn d) = d from dgf_of hd] at hr
  refine pieceF hm kC_sound (oo94_sound b c) hr ⟨appC_bytes (bs := [b]) (cs := [c]) (by simp) (by simp), rfl, hc.symm, rfl, hb.symm, rfl, trivial⟩ ?_
  intro e T H he hr hn hg
  cases tag1 he
  exact ⟨.inr rfl, rfl, _, hr, by rw [begS, hb, hc]; rfl, keep0 _⟩
/-- Beginnings by contract. -/
def BgC (d : List Int) (i j : Nat) (x : List Int) (v : Value) (a b : Int) : Prop := d.length = 32 ∧ v = dig d ∧ a = (i : Int) ∧ b = (j : Int) ∧ i ≤ 63 ∧ j ≤ 63 ∧ x = begS d i j
def bgG (d : List Int) (i j : Nat) (x : List Int) : List Value → Heap → Option CallR := fun args _ => match args with
  | [v, .int .i64 a, .int .i64 b] => some (.same (dig x) (BgC d i j x v a b))
  | _ => none
theorem bg91 (d : List Int) (i j : Nat) (x : List Int) : SoundC Tryz.prog (oneC 91 (bgG d i j x)) := oneC_sound fun args H r h => by
  unfold bgG at h
  split at h
  case h_2 => cases h
  cases h
  rintro ⟨h1, rfl, rfl, rfl, h5, h6, rfl⟩
  exact does91 d h1 i j h5 h6 H
theorem bg94 (d : List Int) (i j : Nat) (x : List Int) : SoundC Tryz.prog (oneC 94 (bgG d i j x)) := oneC_sound fun args H r h => by
  unfold bgG at h
  split at h
  case h_2 => cases h
  cases h
  rintro ⟨h1, rfl, rfl, rfl, h5, h6, rfl⟩
  exact does94 d h1 i j h5 h6 H

-- links of a chain
def lnkS : Nat → List Int → List Int
  | 0, d => d
  | k + 1, d => lnkS k (sumS 392 d)
theorem lnkS_len : ∀ (k : Nat) {d : List Int}, d.length = 32 → (lnkS k d).length = 32
  | 0, _, h => h
  | k + 1, d, _ => lnkS_len k (sumS_len 392 d)
theorem lnkS_add : ∀ (j k : Nat) (d : List Int), lnkS k (lnkS j d) = lnkS (j + k) d
  | 0, k, d => by rw [Nat.zero_add]; rfl
  | j + 1, k, d => by
    show lnkS k (lnkS j (sumS 392 d)) = _
    rw [lnkS_add j k, show j + 1 + k = (j + k) + 1 by omega]; rfl
abbrev H90 (d : List Value) : Heap := mkH 2 [(0, .cells d 26), (1, .cells zD 26)] []
abbrev T90 (k c : Nat) : List Value := mkT 12 [(2, pt 0), (4, pt 1), (5, i64 (k : Int)), (6, i64 (c : Int))] jX
theorem r90a (f : Nat → Int) (k : Nat) : (ex3 Tryz.prog pCall noOO 60 (pre 0 (codeOf Tryz.f90 [])) ⟨⟨[dig (dgf f), i64 (k : Int)] ++ List.replicate 10 undef, ⟨0, []⟩, []⟩, True⟩).map (obs3 [1,2,4] [0,1])
  = some (⟨0, [i64 (k : Int), pt 0, pt 1], 12, 2, [.cells (bytes (dgf f)) 26, .cells zD 26], []⟩, True) := by kernel_rfl
theorem r90b (k : Nat) (H : Heap) : (ex3 Tryz.prog pCall noOO 60 (pre 0 (codeOf Tryz.f90 [1,0])) ⟨⟨mkT 12 [(1, i64 (k : Int)), (2, pt 0), (4, pt 1)] jX, H, []⟩, True⟩).map (obsQ [2,4,5,6])
  = some (⟨0, [pt 0, pt 1, i64 (k : Int), i64 ((0 : Nat) : Int)], 12, H, []⟩, True) := by kernel_rfl
theorem r90c (k c : Nat) (H : Heap) : (ex3 Tryz.prog pCall noOO 60 (pre 0 (codeOf Tryz.f90 [1,0,1,0,0])) ⟨⟨T90 k c, H, []⟩, True⟩).map (obsQ [2,4,5,6,7])
  = some (⟨0, [pt 0, pt 1, i64 (k : Int), i64 (c : Int), .bool (decide ((c : Int) < (k : Int)))], 12, H, []⟩, True) := by kernel_rfl
theorem r90d (k c : Nat) (f : Nat → Int) (b : Value) : (ex3 Tryz.prog kC noOO 60 (codeOf Tryz.f90 [1,0,1,0,0,1,1]) ⟨⟨mkT 12 [(2, pt 0), (4, pt 1), (5, i64 (k : Int)), (6, i64 (c : Int)), (7, b)] jX, H90 (bytes (dgf f)), []⟩, True⟩).map (obs3 [2,4,5,6] [0,1])
  = some (⟨0, [pt 0, pt 1, i64 (k : Int), cw c], 12, 7, [.cells (bytes (sumS 392 (dgf f))) 26, .cells zD 26], []⟩, True) := by kernel_rfl
theorem r90e (k c : Nat) (f : Nat → Int) (b : Value) : (ex3 Tryz.prog pCall noOO 60 (codeOf Tryz.f90 [1,1]) ⟨⟨mkT 12 [(2, pt 0), (4, pt 1), (5, i64 (k : Int)), (6, i64 (c : Int)), (7, b)] jX, H90 (bytes (dgf f)), []⟩, True⟩).map (fin3 Tryz.prog Tryz.f90 [])
  = some (⟨1, some (dig (dgf f)), 2, [], []⟩, True) := by kernel_rfl
theorem does90 (d : List Int) (hd : d.length = 32) (k : Nat) (hk : k ≤ 1000) (H : Heap) : Does Tryz.prog 90 [dig d, i64 (k : Int)] H (dig (lnkS k d)) H := by
  refine Does.closed (H' := ⟨0, []⟩) (val_of_awp Tryz.func90 (c := codeOf Tryz.f90 []) rfl (dig_c2 _) (awp_of_awn (n := 0) ?_ (Nat.le_refl _))) seal_c2 (dig_c2 _) H
  have hra := r90a (fn d) k
  rw [show dgf (fn d) = d from dgf_of hd] at hra
  refine pieceS hm pCall_sound noOO_sound 0 hra rfl trivial rfl 2 [(0, 0), (1, 1)] (os2 := [(0, .cells (bytes d) 26), (1, .cells zD 26)]) rfl (.cons ⟨rfl, .cells (RV.all bytes_c2)⟩ (.cons ⟨rfl, .cells (RV.all bytes_c2)⟩ .nil)) .nil ?_
  refine awn_seq (x := codeOf Tryz.f90 [1,0]) (y := codeOf Tryz.f90 [1,1]) ?_
  refine pieceT hm pCall_sound noOO_sound 0 (r90b k _) rfl trivial rfl ?_
  refine awn_block (c := codeOf Tryz.f90 [1,0,1,0]) (awn_loop (c := codeOf Tryz.f90 [1,0,1,0,0])
    (fun q T H D => ∃ (c : Nat) (g : List Int), c + q = k ∧ g.length = 32 ∧ lnkS q g = lnkS k d ∧ T = T90 k c ∧ H = H90 (bytes g) ∧ D = [])
    k ⟨_, _, _, .refl _ _ _ _ _, 0, d, by omega, hd, rfl, rfl, rfl, rfl⟩ ?_)
  rintro q T H D ⟨c, g, hq, hg, hl, rfl, rfl, rfl⟩
  refine pieceT hm pCall_sound noOO_sound 0 (r90c k c _) rfl trivial rfl ?_
  refine awn_seq (x := codeOf Tryz.f90 [1,0,1,0,0,1,0]) (y := codeOf Tryz.f90 [1,0,1,0,0,1,1]) ?_
  refine awn_cond (c := .tmp 7) (b := decide ((c : Int) < (k : Int))) rfl rfl ?_
  have hgf : dgf (fn g) = g := dgf_of hg
  cases q with
  | zero =>
    rw [decide_eq_false (by omega)]
    refine awn_exit ?_
    have hr := r90e k c (fn g) (.bool false)
    rw [hgf] at hr
    refine pieceF hm pCall_sound noOO_sound hr trivial ?_
    intro e T H he hr hn hgt
    cases tag1 he
    exact ⟨.inr rfl, rfl, _, hr, by rw [← hl]; rfl, keep0 _⟩
  | succ q =>
    rw [decide_eq_true (by omega)]
    refine awn_skip ?_
    have hr := r90d k c (fn g) (.bool true)
    rw [hgf, cw, wrap_i1 (by omega)] at hr
    refine pieceE hm kC_sound noOO_sound hr trivial rfl 2 [(0, 0), (1, 1)] (os2 := [(0, .cells (bytes (sumS 392 g)) 26), (1, .cells zD 26)]) rfl (.cons ⟨rfl, .cells (RV.all bytes_c2)⟩ (.cons ⟨rfl, .cells (RV.all bytes_c2)⟩ .nil)) .nil ?_
    intro T H D hN
    exact ⟨q, by omega, _, _, _, hN, c + 1, sumS 392 g, by omega, sumS_len _ _, hl, rfl, rfl, rfl⟩
abbrev T93 (k c : Nat) : List Value := mkT 14 [(1, i64 (k : Int)), (2, pt 0), (4, pt 1), (5, i64 (c : Int))] jX
theorem r93a (f : Nat → Int) (k : Nat) : (ex3 Tryz.prog pCall noOO 60 (pre 0 (codeOf Tryz.f93 [])) ⟨⟨[dig (dgf f), i64 (k : Int)] ++ List.replicate 12 undef, ⟨0, []⟩, []⟩, True⟩).map (obs3 [1,2,4] [0,1])
  = some (⟨0, [i64 (k : Int), pt 0, pt 1], 14, 2, [.cells (bytes (dgf f)) 26, .cells zD 26], []⟩, True) := by kernel_rfl
theorem r93b (k : Nat) (H : Heap) : (ex3 Tryz.prog pCall noOO 60 (pre 0 (codeOf Tryz.f93 [1,0])) ⟨⟨mkT 14 [(1, i64 (k : Int)), (2, pt 0), (4, pt 1)] jX, H, []⟩, True⟩).map (obsQ [1,2,4,5])
  = some (⟨0, [i64 (k : Int), pt 0, pt 1, i64 ((0 : Nat) : Int)], 14, H, []⟩, True) := by kernel_rfl
theorem r93c (k c : Nat) (H : Heap) : (ex3 Tryz.prog pCall noOO 60 (pre 0 (codeOf Tryz.f93 [1,0,1,0,0,0])) ⟨⟨T93 k c, H, []⟩, True⟩).map (obsQ [1,2,4,5,8])
  = some (⟨0, [i64 (k : Int), pt 0, pt 1, i64 (c : Int), .bool (decide ((c : Int) < (k : Int)))], 14, H, []⟩, True) := by kernel_rfl
theorem r93d (k c : Nat) (f : Nat → Int) (b : Value) : (ex3 Tryz.prog kC noOO 60 (codeOf Tryz.f93 [1,0,1,0,0,1]) ⟨⟨mkT 14 [(1, i64 (k : Int)), (2, pt 0), (4, pt 1), (5, i64 (c : Int)), (8, b)] jX, H90 (bytes (dgf f)), []⟩, True⟩).map (obs3 [1,2,4,5] [0,1])
  = some (⟨0, [i64 (k : Int), pt 0, pt 1, cw c], 14, 70, [.cells (bytes (sumS 392 (dgf f))) 26, .cells zD 26], []⟩, True) := by kernel_rfl
theorem r93e (k c : Nat) (f : Nat → Int) (b : Value) : (ex3 Tryz.prog pCall noOO 60 (codeOf Tryz.f93 [1,1]) ⟨⟨mkT 14 [(1, i64 (k : Int)), (2, pt 0), (4, pt 1), (5, i64 (c : Int)), (8, b)] jX, H90 (bytes (dgf f)), []⟩, True⟩).map (fin3 Tryz.prog Tryz.f93 [])
  = some (⟨1, some (dig (dgf f)), 2, [], []⟩, True) := by kernel_rfl
theorem does93 (d : List Int) (hd : d.length = 32) (k : Nat) (hk : k ≤ 1000) (H : Heap) : Does Tryz.prog 93 [dig d, i64 (k : Int)] H (dig (lnkS k d)) H := by
  refine Does.closed (H' := ⟨0, []⟩) (val_of_awp Tryz.func93 (c := codeOf Tryz.f93 []) rfl (dig_c2 _) (awp_of_awn (n := 0) ?_ (Nat.le_refl _))) seal_c2 (dig_c2 _) H
  have hra := r93a (fn d) k
  rw [show dgf (fn d) = d from dgf_of hd] at hra
  refine pieceS hm pCall_sound noOO_sound 0 hra rfl trivial rfl 2 [(0, 0), (1, 1)] (os2 := [(0, .cells (bytes d) 26), (1, .cells zD 26)]) rfl (.cons ⟨rfl, .cells (RV.all bytes_c2)⟩ (.cons ⟨rfl, .cells (RV.all bytes_c2)⟩ .nil)) .nil ?_
  refine awn_seq (x := codeOf Tryz.f93 [1,0]) (y := codeOf Tryz.f93 [1,1]) ?_
  refine pieceT hm pCall_sound noOO_sound 0 (r93b k _) rfl trivial rfl ?_
  refine awn_block (c := codeOf Tryz.f93 [1,0,1,0]) (awn_loop (c := codeOf Tryz.f93 [1,0,1,0,0])
    (fun q T H D => ∃ (c : Nat) (g : List Int), c + q = k ∧ g.length = 32 ∧ lnkS q g = lnkS k d ∧ T = T93 k c ∧ H = H90 (bytes g) ∧ D = [])
    k ⟨_, _, _, .refl _ _ _ _ _, 0, d, by omega, hd, rfl, rfl, rfl, rfl⟩ ?_)
  rintro q T H D ⟨c, g, hq, hg, hl, rfl, rfl, rfl⟩
  refine awn_seq (x := codeOf Tryz.f93 [1,0,1,0,0,0]) (y := codeOf Tryz.f93 [1,0,1,0,0,1]) ?_
  refine pieceT hm pCall_sound noOO_sound 0 (r93c k c _) rfl trivial rfl ?_
  refine awn_cond (c := .tmp 8) (b := decide ((c : Int) < (k : Int))) rfl rfl ?_
  have hgf : dgf (fn g) = g := dgf_of hg
  cases q with
  | zero =>
    rw [decide_eq_false (by omega)]
    refine awn_exit ?_
    have hr := r93e k c (fn g) (.bool false)
    rw [hgf] at hr
    refine pieceF hm pCall_sound noOO_sound hr trivial ?_
    intro e T H he hr hn hgt
    cases tag1 he
    exact ⟨.inr rfl, rfl, _, hr, by rw [← hl]; rfl, keep0 _⟩
  | succ q =>
    rw [decide_eq_true (by omega)]
    refine awn_skip ?_
    have hr := r93d k c (fn g) (.bool true)
    rw [hgf, cw, wrap_i1 (by omega)] at hr
    refine pieceE hm kC_sound noOO_sound hr trivial rfl 2 [(0, 0), (1, 1)] (os2 := [(0, .cells (bytes (sumS 392 g)) 26), (1, .cells zD 26)]) rfl (.cons ⟨rfl, .cells (RV.all bytes_c2)⟩ (.cons ⟨rfl, .cells (RV.all bytes_c2)⟩ .nil)) .nil ?_
    intro T H D hN
    exact ⟨q, by omega, _, _, _, hN, c + 1, sumS 392 g, by omega, sumS_len _ _, hl, rfl, rfl, rfl⟩
/-- Links by contract. -/
def LkC (d : List Int) (k : Nat) (x : List Int) (v : Value) (z : Int) : Prop := d.length = 32 ∧ v = dig d ∧ z = (k : Int) ∧ k ≤ 1000 ∧ x = lnkS k d
def lkG (d : List Int) (k : Nat) (x : List Int) : List Value → Heap → Option CallR := fun args _ => match args with
  | [v, .int .i64 z] => some (.same (dig x) (LkC d k x v z))
  | _ => none
theorem lk90 (d : List Int) (k : Nat) (x : List Int) : SoundC Tryz.prog (oneC 90 (lkG d k x)) := oneC_sound fun args H r h => by
  unfold lkG at h
  split at h
  case h_2 => cases h
  cases h
  rintro ⟨h1, rfl, rfl, h4, rfl⟩
  exact does90 d h1 k h4 H
theorem lk93 (d : List Int) (k : Nat) (x : List Int) : SoundC Tryz.prog (oneC 93 (lkG d k x)) := oneC_sound fun args H r h => by
  unfold lkG at h
  split at h
  case h_2 => cases h
  cases h
  rintro ⟨h1, rfl, rfl, h4, rfl⟩
  exact does93 d h1 k h4 H
end Go.Abs

namespace Go.Abs
open Go.Proofs
set_option maxRecDepth 1000000

/-- The leaf over the ends of the chains. -/
def sleafS (ls : List (List Int)) : List Int := sumS 393 ls.flatten
theorem sleafS_len (ls : List (List Int)) : (sleafS ls).length = 32 := sumS_len _ _
theorem bytes_flat (ls : List (List Int)) : bytes ls.flatten = flatD ls := by
  unfold flatD List.flatMap bytes
  rw [List.map_flatten]
abbrev o99 (cs bs : List Value) : List (Nat × AObj) := [(0, .ro cs), (1, .cells zD 26), (2, .grow bs 5)]
abbrev T99 (k c n : Nat) : List Value := mkT 22 [(2, pt 1), (3, sl 2 n), (10, sl 0 k), (11, i64 (k : Int)), (12, i64 (c : Int))] jX
abbrev T99b (k c n : Nat) (b : Value) : List Value := mkT 22 [(2, pt 1), (3, sl 2 n), (10, sl 0 k), (11, i64 (k : Int)), (12, i64 (c : Int)), (13, b)] jX
theorem r99a (cs : List Value) : (ex3 Tryz.prog pCall (mkG Tryz.prog 9 []) 60 (pre 1 (codeOf Tryz.f99 [])) ⟨⟨[sl 0 35] ++ List.replicate 21 undef, ⟨1, [(0, .ro cs)]⟩, []⟩, True⟩).map (obs3 [0,2,3] [0,1,2])
  = some (⟨0, [sl 0 35, pt 1, sl 2 0], 22, 3, [.ro cs, .cells zD 26, .grow [] 5], []⟩, MkC 1 1 #[.int .u8 0] 0 1120 [] ∧ True) := by kernel_rfl
theorem r99b (k : Nat) (v : Value) (H : Heap) : (ex3 Tryz.prog pCall noOO 60 (pre 0 (codeOf Tryz.f99 [1,1,0])) ⟨⟨mkT 22 [(0, sl 0 k), (2, pt 1), (3, v)] jX, H, []⟩, True⟩).map (obsQ [2,3,10,11,12])
  = some (⟨0, [pt 1, v, sl 0 k, i64 (k : Int), i64 ((0 : Nat) : Int)], 22, H, []⟩, True) := by kernel_rfl
theorem r99c (k c n : Nat) (H : Heap) : (ex3 Tryz.prog pCall noOO 60 (pre 0 (codeOf Tryz.f99 [1,1,0,1,0,0])) ⟨⟨T99 k c n, H, []⟩, True⟩).map (obsQ [2,3,10,11,12,13])
  = some (⟨0, [pt 1, sl 2 n, sl 0 k, i64 (k : Int), i64 (c : Int), .bool (decide ((c : Int) < (k : Int)))], 22, H, []⟩, True) := by kernel_rfl
noncomputable def oo99 (f : Nat → Int) : OpO := orO (idxO Tryz.prog 14) (orO (ldO Tryz.prog 15 (dig (dgf f))) (appO Tryz.prog 18))
theorem oo99_sound (f : Nat → Int) : SoundO Tryz.prog (oo99 f) := orO_sound idxO_sound (orO_sound ldO_sound appO_sound)
theorem r99d (f : Nat → Int) (cs bs : List Value) (k c n : Nat) (b : Value) : (ex3 Tryz.prog pCall (oo99 f) 60 (codeOf Tryz.f99 [1,1,0,1,0,0,1,1]) ⟨⟨T99b k c n b, mkH 3 (o99 cs bs) [], []⟩, True⟩).map (obs3 [2,3,10,11,12] [0,1,4])
  = some (⟨0, [pt 1, sl 4 (n + 32), sl 0 k, i64 (k : Int), cw c], 22, 5, [.ro cs, .cells zD 26, .grow (bs.take (n * (0 + 1)) ++ bytes (dgf f)) 5], []⟩,
    AppC 1 0 1 5 5 0 capG n 32 0 bs (bytes (dgf f)) ∧ LdC Tryz.prog 26 (some cs) (0 + c * 32) (dig (dgf f)) ∧ ((0 : Int) ≤ (c : Int) ∧ (c : Int) < (k : Int)) ∧ True) := by kernel_rfl
theorem r99e (x : Nat → Int) (cs bs : List Value) (k c n : Nat) (b : Value) : (ex3 Tryz.prog pCall (callO Tryz.prog (oneC 31 (sumF x))) 60 (codeOf Tryz.f99 [1,1,1]) ⟨⟨T99b k c n b, mkH 3 (o99 cs bs) [], []⟩, True⟩).map (fin3 Tryz.prog Tryz.f99 [0])
  = some (⟨1, some (dig (dgf x)), 3, [.ro cs], []⟩, SumC x 393 bs 0 n ∧ True) := by kernel_rfl
theorem flat_step {ls : List (List Int)} (h : ∀ d ∈ ls, d.length = 32) {c : Nat} {d : List Int} (hd : ls[c]? = some d) : (flatD (ls.take c)).take (c * 32 * (0 + 1)) ++ bytes d = flatD (ls.take (c + 1)) := by
  have hc : c < ls.length := (List.getElem?_eq_some_iff.1 hd).1
  have h32 : ∀ x ∈ ls.take c, x.length = 32 := take_32 h c
  have hl : (flatD (ls.take c)).length = c * 32 := by rw [flatD_len h32, List.length_take]; congr 1; omega
  rw [take_snoc hd, flatD_snoc, show c * 32 * (0 + 1) = c * 32 by omega, ← hl, List.take_length]
theorem app_flat {ls : List (List Int)} (h : ∀ d ∈ ls, d.length = 32) {c : Nat} {d : List Int} (hd : d.length = 32) (hc : c ≤ ls.length) (hb : ls.length ≤ 1000) : AppC 1 0 1 5 5 0 capG (c * 32) 32 0 (flatD (ls.take c)) (bytes d) := by
  have h32 : ∀ x ∈ ls.take c, x.length = 32 := take_32 h c
  have hl : (ls.take c).flatten.length = c * 32 := by
    rw [← bytes_len, bytes_flat, flatD_len h32, List.length_take]; congr 1; omega
  have := appC_bytes (bs := (ls.take c).flatten) (cs := d) (by omega) (by rw [hl, hd]; omega)
  rwa [hl, hd, bytes_flat] at this
theorem sum_flat {ls : List (List Int)} (h : ∀ d ∈ ls, d.length = 32) (hb : ls.length ≤ 1000) : SumC (fn (sleafS ls)) 393 (flatD ls) 0 (ls.length * 32) := by
  have := sumC_bytes (f := fn (sleafS ls)) (d := 393) (bs := ls.flatten) (dgf_of (sleafS_len ls)) (by rw [← bytes_len, bytes_flat, flatD_len h]; omega)
  rwa [bytes_flat, ← bytes_len, bytes_flat, flatD_len h] at this
theorem ob99 {σ : List (Nat × Nat)} {ls ks : List (List Int)} {j : Nat} (h1 : sg 1 σ 1 = some 1) (h2 : sg 1 σ 2 = some j) :
    F2 (fun (p q : Nat × AObj) => sg 1 σ q.1 = some p.1 ∧ RO (sg 1 σ) p.2 q.2) (([0,1,j] : List Nat).zip [.ro (flatD ls), .cells zD 26, .grow (flatD ks) 5]) (o99 (flatD ls) (flatD ks)) :=
  .cons ⟨rfl, .ro (RV.all flatD_c2)⟩ (.cons ⟨h1, .cells (RV.all bytes_c2)⟩ (.cons ⟨h2, .grow (RV.all flatD_c2)⟩ .nil))
theorem does99 {ls : List (List Int)} (h : ∀ d ∈ ls, d.length = 32) (hl : ls.length = 35) :
    Does Tryz.prog 99 [sl 0 35] ⟨1, [(0, .ro (flatD ls))]⟩ (dig (sleafS ls)) ⟨1, [(0, .ro (flatD ls))]⟩ := by
  refine val_of_awp Tryz.func99 (c := codeOf Tryz.f99 []) rfl (dig_c2 _) (awp_of_awn (n := 1) ?_ (Nat.le_refl _))
  refine pieceS hm pCall_sound mkG_sound 1 (r99a (flatD ls)) rfl ⟨⟨by omega, by omega, by omega, by omega, by omega, rfl, by omega, by simp [zerosOf]⟩, trivial⟩ rfl 3 [(1, 1), (2, 2)] rfl (ob99 (ks := []) rfl rfl) .nil ?_
  refine awn_seq (x := codeOf Tryz.f99 [1,1,0]) (y := codeOf Tryz.f99 [1,1,1]) ?_
  refine pieceT hm pCall_sound noOO_sound 0 (r99b 35 _ _) rfl trivial rfl ?_
  refine awn_block (c := codeOf Tryz.f99 [1,1,0,1,0]) (awn_loop (c := codeOf Tryz.f99 [1,1,0,1,0,0])
    (fun q T H D => ∃ c, c + q = 35 ∧ T = T99 35 c (c * 32) ∧ H = mkH 3 (o99 (flatD ls) (flatD (ls.take c))) [] ∧ D = [])
    35 ⟨_, _, _, .refl _ _ _ _ _, 0, by omega, rfl, rfl, rfl⟩ ?_)
  rintro q T H D ⟨c, hq, rfl, rfl, rfl⟩
  refine pieceT hm pCall_sound noOO_sound 0 (r99c 35 c _ _) rfl trivial rfl ?_
  refine awn_seq (x := codeOf Tryz.f99 [1,1,0,1,0,0,1,0]) (y := codeOf Tryz.f99 [1,1,0,1,0,0,1,1]) ?_
  refine awn_cond (c := .tmp 13) (b := decide ((c : Int) < ((35 : Nat) : Int))) rfl rfl ?_
  cases q with
  | zero =>
    rw [decide_eq_false (by omega)]
    refine awn_exit ?_
    have hc : c = 35 := by omega
    subst hc
    have hr := r99e (fn (sleafS ls)) (flatD ls) (flatD (ls.take 35)) 35 35 (35 * 32) (.bool false)
    have hs := sum_flat h (by omega)
    rw [hl] at hs
    rw [show dgf (fn (sleafS ls)) = sleafS ls from dgf_of (sleafS_len ls), List.take_of_length_le (by omega)] at hr
    rw [List.take_of_length_le (by omega)]
    refine pieceF hm pCall_sound (callO_sound (sumF31 _)) hr ⟨hs, trivial⟩ ?_
    intro e T H he hr hn hg
    cases tag1 he
    exact ⟨.inr rfl, rfl, _, hr, rfl, keep1 (by rw [hn]; show 1 ≤ 3; omega) (hg (0, _) (.head _))⟩
  | succ q =>
    rw [decide_eq_true (by omega)]
    refine awn_skip ?_
    obtain ⟨hl1, hl2⟩ := getD_32 h (i := c) (by omega)
    generalize ls.getD c [] = d at hl1 hl2
    have hr := r99d (fn d) (flatD ls) (flatD (ls.take c)) 35 c (c * 32) (.bool true)
    rw [show dgf (fn d) = d from dgf_of hl1, cw, wrap_i1 (by omega), flat_step h hl2, show c * 32 + 32 = (c + 1) * 32 by omega] at hr
    refine pieceE hm pCall_sound (oo99_sound _) hr ⟨app_flat h hl1 (by omega) (by omega), flatD_at h hl2, ⟨by omega, by omega⟩, trivial⟩ rfl 3 [(1, 1), (2, 4)] rfl (ob99 rfl rfl) .nil ?_
    intro T H D hN
    exact ⟨q, by omega, _, _, _, hN, c + 1, by omega, rfl, rfl, rfl⟩
-- the reference's
abbrev e95 : Value := .slice (some ⟨2, 0, none⟩) 0 0
abbrev T95 (k c : Nat) (v : Value) : List Value := mkT 21 [(0, sl 0 k), (2, pt 1), (3, v), (4, i64 (c : Int))] jX
abbrev T95b (k c : Nat) (v b : Value) : List Value := mkT 21 [(0, sl 0 k), (2, pt 1), (3, v), (4, i64 (c : Int)), (9, b)] jX
theorem r95a (cs : List Value) : (ex3 Tryz.prog pCall noOO 60 (pre 1 (codeOf Tryz.f95 [])) ⟨⟨[sl 0 35] ++ List.replicate 20 undef, ⟨1, [(0, .ro cs)]⟩, []⟩, True⟩).map (obs3 [0,2,3] [0,1,2])
  = some (⟨0, [sl 0 35, pt 1, e95], 21, 3, [.ro cs, .cells zD 26, .cells [] 5], []⟩, True) := by kernel_rfl
theorem r95b (k : Nat) (v : Value) (H : Heap) : (ex3 Tryz.prog pCall noOO 60 (pre 0 (codeOf Tryz.f95 [1,1,0])) ⟨⟨mkT 21 [(0, sl 0 k), (2, pt 1), (3, v)] jX, H, []⟩, True⟩).map (obsQ [0,2,3,4])
  = some (⟨0, [sl 0 k, pt 1, v, i64 ((0 : Nat) : Int)], 21, H, []⟩, True) := by kernel_rfl
theorem r95c (k c : Nat) (v : Value) (H : Heap) : (ex3 Tryz.prog pCall noOO 60 (pre 0 (codeOf Tryz.f95 [1,1,0,1,0,0,0])) ⟨⟨T95 k c v, H, []⟩, True⟩).map (obsQ [0,2,3,4,9])
  = some (⟨0, [sl 0 k, pt 1, v, i64 (c : Int), .bool (decide ((c : Int) < (k : Int)))], 21, H, []⟩, True) := by kernel_rfl
noncomputable def oo95 (f : Nat → Int) : OpO := orO (idxO Tryz.prog 15) (orO (ldO Tryz.prog 16 (dig (dgf f))) (orO (callO Tryz.prog (oneC 36 bytG)) (orO (appO Tryz.prog 18) (appE Tryz.prog 18))))
theorem oo95_sound (f : Nat → Int) : SoundO Tryz.prog (oo95 f) := orO_sound idxO_sound (orO_sound ldO_sound (orO_sound (callO_sound bytG_sound) (orO_sound appO_sound appE_sound)))
theorem r95d (f : Nat → Int) (cs : List Value) (k c : Nat) (b : Value) : (ex3 Tryz.prog pCall (oo95 f) 60 (codeOf Tryz.f95 [1,1,0,1,0,0,1]) ⟨⟨T95b k c e95 b, mkH 3 [(0, .ro cs), (1, .cells zD 26), (2, .cells [] 5)] [], []⟩, True⟩).map (obs3 [0,2,3,4] [0,1,4])
  = some (⟨0, [sl 0 k, pt 1, sl 4 32, cw c], 21, 5, [.ro cs, .cells zD 26, .grow (bytes (dgf f)) 5], []⟩,
    AppN 1 0 1 32 0 (bytes (dgf f)) ∧ BytC (bytes (dgf f)) ∧ LdC Tryz.prog 26 (some cs) (0 + c * 32) (dig (dgf f)) ∧ ((0 : Int) ≤ (c : Int) ∧ (c : Int) < (k : Int)) ∧ True) := by kernel_rfl
theorem r95e (f : Nat → Int) (cs bs : List Value) (k c n : Nat) (b : Value) : (ex3 Tryz.prog pCall (oo95 f) 60 (codeOf Tryz.f95 [1,1,0,1,0,0,1]) ⟨⟨T95b k c (sl 2 n) b, mkH 3 (o99 cs bs) [], []⟩, True⟩).map (obs3 [0,2,3,4] [0,1,4])
  = some (⟨0, [sl 0 k, pt 1, sl 4 (n + 32), cw c], 21, 5, [.ro cs, .cells zD 26, .grow (bs.take (n * (0 + 1)) ++ bytes (dgf f)) 5], []⟩,
    AppC 1 0 1 5 5 0 capG n 32 0 bs (bytes (dgf f)) ∧ BytC (bytes (dgf f)) ∧ LdC Tryz.prog 26 (some cs) (0 + c * 32) (dig (dgf f)) ∧ ((0 : Int) ≤ (c : Int) ∧ (c : Int) < (k : Int)) ∧ True) := by kernel_rfl
theorem r95f (x : Nat → Int) (cs bs : List Value) (k c n : Nat) (b : Value) : (ex3 Tryz.prog pCall (callO Tryz.prog (oneC 33 (sumF x))) 60 (codeOf Tryz.f95 [1,1,1]) ⟨⟨T95b k c (sl 2 n) b, mkH 3 (o99 cs bs) [], []⟩, True⟩).map (fin3 Tryz.prog Tryz.f95 [0])
  = some (⟨1, some (dig (dgf x)), 3, [.ro cs], []⟩, SumC x 393 bs 0 n ∧ True) := by kernel_rfl
theorem byt_ok' {d : List Int} (h : d.length = 32) : BytC (bytes d) := ⟨by rw [bytes_len, h], bytes_u8⟩
theorem does95 {ls : List (List Int)} (h : ∀ d ∈ ls, d.length = 32) (hl : ls.length = 35) :
    Does Tryz.prog 95 [sl 0 35] ⟨1, [(0, .ro (flatD ls))]⟩ (dig (sleafS ls)) ⟨1, [(0, .ro (flatD ls))]⟩ := by
  refine val_of_awp Tryz.func95 (c := codeOf Tryz.f95 []) rfl (dig_c2 _) (awp_of_awn (n := 1) ?_ (Nat.le_refl _))
  refine pieceS hm pCall_sound noOO_sound 1 (r95a (flatD ls)) rfl trivial rfl 3 [(1, 1), (2, 2)] (os2 := [(0, .ro (flatD ls)), (1, .cells zD 26), (2, .cells [] 5)]) rfl (.cons ⟨rfl, .ro (RV.all flatD_c2)⟩ (.cons ⟨rfl, .cells (RV.all bytes_c2)⟩ (.cons ⟨rfl, .cells .nil⟩ .nil))) .nil ?_
  refine awn_seq (x := codeOf Tryz.f95 [1,1,0]) (y := codeOf Tryz.f95 [1,1,1]) ?_
  refine pieceT hm pCall_sound noOO_sound 0 (r95b 35 _ _) rfl trivial rfl ?_
  refine awn_block (c := codeOf Tryz.f95 [1,1,0,1,0]) (awn_loop (c := codeOf Tryz.f95 [1,1,0,1,0,0])
    (fun q T H D => ∃ c, c + q = 35 ∧ ((c = 0 ∧ T = T95 35 c e95 ∧ H = mkH 3 [(0, .ro (flatD ls)), (1, .cells zD 26), (2, .cells [] 5)] []) ∨ (1 ≤ c ∧ T = T95 35 c (sl 2 (c * 32)) ∧ H = mkH 3 (o99 (flatD ls) (flatD (ls.take c))) [])) ∧ D = [])
    35 ⟨_, _, _, .refl _ _ _ _ _, 0, by omega, .inl ⟨rfl, rfl, rfl⟩, rfl⟩ ?_)
  rintro q T H D ⟨c, hq, hcase, rfl⟩
  have hw := wrap_i1 (i := c) (by omega)
  rcases hcase with ⟨rfl, rfl, rfl⟩ | ⟨hc1, rfl, rfl⟩
  · refine awn_seq (x := codeOf Tryz.f95 [1,1,0,1,0,0,0]) (y := codeOf Tryz.f95 [1,1,0,1,0,0,1]) ?_
    refine pieceT hm pCall_sound noOO_sound 0 (r95c 35 0 _ _) rfl trivial rfl ?_
    refine awn_cond (c := .tmp 9) (b := decide (((0 : Nat) : Int) < ((35 : Nat) : Int))) rfl rfl ?_
    rw [decide_eq_true (by omega)]
    refine awn_skip ?_
    obtain ⟨hl1, hl2⟩ := getD_32 h (i := 0) (by omega)
    generalize ls.getD 0 [] = d at hl1 hl2
    have hr := r95d (fn d) (flatD ls) 35 0 (.bool true)
    have hst := flat_step h hl2
    have he : bytes d = flatD (ls.take (0 + 1)) := by rw [← hst]; simp [flatD]
    have hap : AppN 1 0 1 32 0 (bytes d) := by have := appN_bytes (bs := d) (by omega) (by omega); rwa [hl1] at this
    have hby := byt_ok' hl1
    rw [show dgf (fn d) = d from dgf_of hl1, cw, hw] at hr
    rw [he] at hr hap hby
    refine pieceE hm pCall_sound (oo95_sound _) hr ⟨hap, hby, flatD_at h hl2, ⟨by omega, by omega⟩, trivial⟩ rfl 3 [(1, 1), (2, 4)] rfl (ob99 (ks := ls.take (0 + 1)) rfl rfl) .nil ?_
    intro T H D hN
    exact ⟨34, by omega, _, _, _, hN, 0 + 1, by omega, .inr ⟨by omega, rfl, rfl⟩, rfl⟩
  · refine awn_seq (x := codeOf Tryz.f95 [1,1,0,1,0,0,0]) (y := codeOf Tryz.f95 [1,1,0,1,0,0,1]) ?_
    refine pieceT hm pCall_sound noOO_sound 0 (r95c 35 c _ _) rfl trivial rfl ?_
    refine awn_cond (c := .tmp 9) (b := decide ((c : Int) < ((35 : Nat) : Int))) rfl rfl ?_
    cases q with
    | zero =>
      rw [decide_eq_false (by omega)]
      refine awn_exit ?_
      have hc : c = 35 := by omega
      subst hc
      have hr := r95f (fn (sleafS ls)) (flatD ls) (flatD (ls.take 35)) 35 35 (35 * 32) (.bool false)
      have hs := sum_flat h (by omega)
      rw [hl] at hs
      rw [show dgf (fn (sleafS ls)) = sleafS ls from dgf_of (sleafS_len ls), List.take_of_length_le (by omega)] at hr
      rw [List.take_of_length_le (by omega)]
      refine pieceF hm pCall_sound (callO_sound (sumF33 _)) hr ⟨hs, trivial⟩ ?_
      intro e T H he hr hn hg
      cases tag1 he
      exact ⟨.inr rfl, rfl, _, hr, rfl, keep1 (by rw [hn]; show 1 ≤ 3; omega) (hg (0, _) (.head _))⟩
    | succ q =>
      rw [decide_eq_true (by omega)]
      refine awn_skip ?_
      obtain ⟨hl1, hl2⟩ := getD_32 h (i := c) (by omega)
      generalize ls.getD c [] = d at hl1 hl2
      have hr := r95e (fn d) (flatD ls) (flatD (ls.take c)) 35 c (c * 32) (.bool true)
      rw [show dgf (fn d) = d from dgf_of hl1, cw, hw, flat_step h hl2, show c * 32 + 32 = (c + 1) * 32 by omega] at hr
      refine pieceE hm pCall_sound (oo95_sound _) hr ⟨app_flat h hl1 (by omega) (by omega), byt_ok' hl1, flatD_at h hl2, ⟨by omega, by omega⟩, trivial⟩ rfl 3 [(1, 1), (2, 4)] rfl (ob99 rfl rfl) .nil ?_
      intro T H D hN
      exact ⟨q, by omega, _, _, _, hN, c + 1, by omega, .inr ⟨by omega, rfl, rfl⟩, rfl⟩
/-- Leaves over chains, by contract. -/
def slG (ls : List (List Int)) (x : List Int) : List Value → Heap → Option CallR := fun args H => match args with
  | [.slice (some ⟨id, off, none⟩) n _] => (match H.row id with
    | some cs => some (.same (dig x) (SliC ls n off cs ∧ n = 35 ∧ x = sleafS ls))
    | none => none)
  | _ => none
theorem slG_key (ls : List (List Int)) (x : List Int) {k : FuncId} (hk : (∀ d ∈ ls, d.length = 32) → ls.length = 35 → Does Tryz.prog k [sl 0 35] ⟨1, [(0, .ro (flatD ls))]⟩ (dig (sleafS ls)) ⟨1, [(0, .ro (flatD ls))]⟩) :
    SoundC Tryz.prog (oneC k (slG ls x)) := oneC_sound fun args H r h => by
  unfold slG at h
  split at h
  case h_2 => cases h
  rename_i id off n c
  split at h
  case h_2 => cases h
  rename_i cs hr
  cases h
  rintro ⟨⟨g1, g2, g3, g4⟩, rfl, rfl⟩
  rw [g2] at g3 g4
  have := frame_val (hk g1 g2.symm) (dig_c2 _) (imp_slice (P := Tryz.prog) (H := H) (id := id) (off := off) (c := c) (n := 35) (m := ls.length * 32) (pre := []) (post := []) rfl rfl hr g4 g3 flatD_c2)
  exact this
theorem sl99 (ls : List (List Int)) (x : List Int) : SoundC Tryz.prog (oneC 99 (slG ls x)) := slG_key ls x fun h h1 => does99 h h1
theorem sl95 (ls : List (List Int)) (x : List Int) : SoundC Tryz.prog (oneC 95 (slG ls x)) := slG_key ls x fun h h1 => does95 h h1
end Go.Abs

namespace Go.Abs
open Go.Proofs
set_option maxRecDepth 1000000

abbrev clv (g : Nat) (caps : Array Value) : Value := .func (.func g) #[] caps
/-- The digests laid so far. -/
def curD (ds : List (List Int)) (c : Nat) : List (List Int) := ds.take c ++ List.replicate (ds.length - c) zl
theorem curD_32 {ds : List (List Int)} (h : ∀ d ∈ ds, d.length = 32) (c : Nat) : ∀ d ∈ curD ds c, d.length = 32 := by
  intro d hd
  rcases List.mem_append.1 hd with hd | hd
  · exact h d (List.mem_of_mem_take hd)
  · rw [List.eq_of_mem_replicate hd]; rfl
theorem curD_len (ds : List (List Int)) {c : Nat} (hc : c ≤ ds.length) : (curD ds c).length = ds.length := by simp [curD]; omega
theorem curD_step {ds : List (List Int)} (h : ∀ d ∈ ds, d.length = 32) {c : Nat} {d : List Int} (hi : ds[c]? = some d) : splice (flatD (curD ds c)) (c * 32) (bytes d) = flatD (curD ds (c + 1)) := by
  have hlt : c < ds.length := (List.getElem?_eq_some_iff.1 hi).1
  have hd : d.length = 32 := h d (List.mem_of_getElem? hi)
  have hl1 : (flatD (ds.take c)).length = c * 32 := by
    rw [flatD_len (take_32 h c), List.length_take]; congr 1; omega
  have hl2 : (bytes d).length = 32 := by rw [bytes_len, hd]
  have hz : (flatD [zl]).length = 32 := rfl
  unfold splice curD
  rw [show ds.length - c = (ds.length - (c + 1)) + 1 by omega, List.replicate_succ, take_snoc hi, flatD_app, flatD_app, flatD_app]
  rw [show flatD (zl :: List.replicate (ds.length - (c + 1)) zl) = flatD [zl] ++ flatD (List.replicate (ds.length - (c + 1)) zl) from rfl]
  rw [List.take_left' hl1, hl2]
  have e1 : (flatD (ds.take c) ++ (flatD [zl] ++ flatD (List.replicate (ds.length - (c + 1)) zl))).drop (c * 32 + 32) = flatD (List.replicate (ds.length - (c + 1)) zl) := by
    rw [← List.append_assoc, List.drop_left']
    rw [List.length_append, hl1, hz]
  rw [e1]
  simp [flatD]

/-- Closures under other names. -/
theorem F2.getD {α β : Type} {R : α → β → Prop} {u : α} {v : β} : ∀ {l : List α} {m : List β}, F2 R l m → ∀ j, j < l.length → R (l.getD j u) (m.getD j v)
  | _, _, .nil, j, h => by simp at h
  | _, _, .cons hab t, 0, _ => hab
  | _, _, .cons hab t, j + 1, h => by simpa using F2.getD t j (by simpa using h)
theorem RV.clos {σ : Nat → Option Nat} {f : FuncId} {l m : List Value} (h : F2 (RV σ) l m) : RV σ (.func (.func f) #[] l.toArray) (.func (.func f) #[] m.toArray) := fun E u hv => by
  have hlen := F2.length h
  cases hv with
  | func _ _ a' _ c' hf h1 h2 h3 h4 =>
    refine .func _ _ a' _ c' hf h1 (by simpa [← hlen] using h2) (fun j => ?_) (fun j => ?_)
    · have := h3 j; simp at this ⊢; rw [eq_of_c2 this (by simp [c2, undef])]; exact .undef _
    · have := h4 j
      by_cases hj : j < l.length
      · have hr := F2.getD (u := undef) (v := undef) h j hj
        have e1 : l.toArray.getD j undef = l.getD j undef := by simp [Array.getD, hj, List.getD_eq_getElem?_getD]
        have e2 : m.toArray.getD j undef = m.getD j undef := by simp [Array.getD, ← hlen, hj, List.getD_eq_getElem?_getD]
        rw [e1] at this
        rw [e2]
        exact hr E _ this
      · have e1 : l.toArray.getD j undef = undef := by simp [Array.getD, hj]
        have e2 : m.toArray.getD j undef = undef := by simp [Array.getD, ← hlen, hj]
        rw [e1] at this
        rw [e2]
        rw [eq_of_c2 this (by simp [c2, undef])]
        exact .undef _
theorem pieceSX {call : CallF} (hO : ∀ f args H v h, call f args H = some (v, h) → Does Tryz.prog f args H v (h.getD H)) {OO : OpO} (hOO : SoundO Tryz.prog OO) {n m : Nat} {c : Code} {T : List Value} {H : Heap} {D : Defs} {Q : APost} {L : Prop} {ts os : List Nat} {ob : Obs} (k : Nat) (h : (ex3 Tryz.prog call OO m (pre k c) ⟨⟨T, H, D⟩, True⟩).map (obs3 ts os) = some (ob, L)) (hk : seqs k c = true) (hL : L) (ht : ob.tag = 0)
    (n2 : Nat) (s : List (Nat × Nat)) {k2 : List (Nat × Value)} {os2 : List (Nat × AObj)} {D2 : Defs} (hs : sgOK n n2 s = true) (hT : F2 (fun (p q : Nat × Value) => p.1 = q.1 ∧ RV (sg n s) p.2 q.2) (ts.zip ob.vals) k2) (hOb : F2 (fun (p q : Nat × AObj) => sg n s q.1 = some p.1 ∧ RO (sg n s) p.2 q.2) (os.zip ob.objs) os2)
    (hD : F2 (fun (d d2 : FuncId × List Value) => d.1 = d2.1 ∧ F2 (RV (sg n s)) d.2 d2.2) ob.defs D2)
    (hQ : Awn Tryz.prog n (rst k c) Q (mkT ob.n k2 (fun _ => jk)) (mkH n2 os2 []) D2) : Awn Tryz.prog n c Q T H D := by
  obtain ⟨r, hr, h1, h2, h3, h4, h5, h6⟩ := piece_obs h hL
  refine (pre_sound hm hO hOO k m c _ r hk hr h1 (h2.trans ht)).2 ?_
  rw [h3, h6]
  exact awn_nrm (Nrm.mk h5 n2 s hs hT hOb hD) hQ
theorem pieceEX {call : CallF} (hO : ∀ f args H v h, call f args H = some (v, h) → Does Tryz.prog f args H v (h.getD H)) {OO : OpO} (hOO : SoundO Tryz.prog OO) {n m : Nat} {c : Code} {T : List Value} {H : Heap} {D : Defs} {Q : APost} {L : Prop} {ts os : List Nat} {ob : Obs} (h : (ex3 Tryz.prog call OO m c ⟨⟨T, H, D⟩, True⟩).map (obs3 ts os) = some (ob, L)) (hL : L) (ht : ob.tag = 0)
    (n2 : Nat) (s : List (Nat × Nat)) {k2 : List (Nat × Value)} {os2 : List (Nat × AObj)} {D2 : Defs} (hs : sgOK n n2 s = true) (hT : F2 (fun (p q : Nat × Value) => p.1 = q.1 ∧ RV (sg n s) p.2 q.2) (ts.zip ob.vals) k2) (hOb : F2 (fun (p q : Nat × AObj) => sg n s q.1 = some p.1 ∧ RO (sg n s) p.2 q.2) (os.zip ob.objs) os2)
    (hD : F2 (fun (d d2 : FuncId × List Value) => d.1 = d2.1 ∧ F2 (RV (sg n s)) d.2 d2.2) ob.defs D2)
    (hQ : ∀ T H D, Nrm Tryz.prog n T H D (mkT ob.n k2 (fun _ => jk)) (mkH n2 os2 []) D2 → Q .normal T H D) : Awn Tryz.prog n c Q T H D := by
  obtain ⟨r, hr, h1, h2, h3, h4, h5, h6⟩ := piece_obs h hL
  refine awn_of (awp_mono (ex3_sound hm hO hOO m c _ r hr h1).2 ?_)
  rintro e T H D ⟨rfl, rfl, rfl, rfl⟩
  have ht2 := h2.trans ht
  show Q r.1.to r.2.T r.2.H r.2.D
  rw [show r.1.to = .normal by rw [tag0 ht2]; rfl]
  refine hQ _ _ _ ?_
  rw [h3, h6]
  exact Nrm.mk h5 n2 s hs hT hOb hD

/-- A last piece that leaves the heap alone. -/
theorem pieceR2 {fn : Func} {call : CallF} (hO : ∀ f args H v h, call f args H = some (v, h) → Does Tryz.prog f args H v (h.getD H)) {OO : OpO} (hOO : SoundO Tryz.prog OO) {n m : Nat} {c : Code} {T : List Value} {H : Heap} {L : Prop} {u : Value} {Q : APost}
    (h : (ex3 Tryz.prog call OO m c ⟨⟨T, H, []⟩, True⟩).map (fun r => (r.1.tag, resA Tryz.prog fn r.2.T r.2.H, r.2.H, r.2.D, r.2.L)) = some (1, some u, H, [], L)) (hL : L)
    (hQ : ∀ T', resA Tryz.prog fn T' H = some u → Q .ret T' H []) : Awn Tryz.prog n c Q T H [] := by
  cases hr : ex3 Tryz.prog call OO m c ⟨⟨T, H, []⟩, True⟩ with
  | none => rw [hr] at h; cases h
  | some r =>
    rw [hr] at h
    simp only [Option.map_some, Option.some.injEq, Prod.mk.injEq] at h
    obtain ⟨h1, h2, h3, h4, h5⟩ := h
    refine awn_of (awp_mono (ex3_sound hm hO hOO m c _ r hr (h5 ▸ hL)).2 ?_)
    rintro e T H D ⟨rfl, rfl, rfl, rfl⟩
    have := tag1 h1
    have e1 : r.1.to = .ret := by rw [this]; rfl
    rw [e1]
    have e2 := hQ r.2.T (by rw [← h2, h3])
    rw [← h3, ← h4] at e2
    exact e2

theorem r88b (n : Nat) (v w : Value) (H : Heap) : (ex3 Tryz.prog pCall noOO 60 (pre 0 (codeOf Tryz.f88 [1,1,0])) ⟨⟨mkT 21 [(0, i64 (n : Int)), (1, v), (5, w)] jX, H, []⟩, True⟩).map (obsQ [1,5,9,10])
  = some (⟨0, [v, w, i64 (n : Int), i64 ((0 : Nat) : Int)], 21, H, []⟩, True) := by kernel_rfl
abbrev T88 (n : Nat) (v : Value) (b c : Nat) : List Value := mkT 21 [(1, v), (5, sl b n), (9, i64 (n : Int)), (10, i64 (c : Int))] jX
abbrev T88b (n : Nat) (v : Value) (b c : Nat) (x : Value) : List Value := mkT 21 [(1, v), (5, sl b n), (9, i64 (n : Int)), (10, i64 (c : Int)), (11, x)] jX
theorem r88c (n c : Nat) (v w : Value) (H : Heap) : (ex3 Tryz.prog pCall noOO 60 (pre 0 (codeOf Tryz.f88 [1,1,0,1,0,0])) ⟨⟨mkT 21 [(1, v), (5, w), (9, i64 (n : Int)), (10, i64 (c : Int))] jX, H, []⟩, True⟩).map (obsQ [1,5,9,10,11])
  = some (⟨0, [v, w, i64 (n : Int), i64 (c : Int), .bool (decide ((c : Int) < (n : Int)))], 21, H, []⟩, True) := by kernel_rfl
theorem r88e (v w x y z : Value) (H : Heap) : (ex3 Tryz.prog pCall noOO 60 (codeOf Tryz.f88 [1,1,1]) ⟨⟨mkT 21 [(1, v), (5, w), (9, x), (10, y), (11, z)] jX, H, []⟩, True⟩).map (fun r => (r.1.tag, resA Tryz.prog Tryz.f88 r.2.T r.2.H, r.2.H, r.2.D, r.2.L))
  = some (1, some w, H, [], True) := by kernel_rfl

/-- A list made by a function, in whatever heap. -/
theorem list88 {b n : Nat} {H0 : Heap} {B : List (Nat × AObj)} {v : Value} {ds : List (List Int)} (hn : ds.length = n) (hb : H0.next = b)
    (start : ∀ Q, Awn Tryz.prog b (codeOf Tryz.f88 [1,1]) Q (mkT 21 [(0, i64 (n : Int)), (1, v), (5, sl b n)] jX) (mkH (b + 1) (B ++ [(b, grD (curD ds 0))]) []) [] → Awn Tryz.prog b (codeOf Tryz.f88 []) Q ([i64 (n : Int), v] ++ List.replicate 19 undef) H0 [])
    (step : ∀ c, c < n → ∀ (x : Value) Q, (∀ T H D, Nrm Tryz.prog b T H D (T88 n v b (c + 1)) (mkH (b + 1) (B ++ [(b, grD (curD ds (c + 1)))]) []) [] → Q .normal T H D) → Awn Tryz.prog b (codeOf Tryz.f88 [1,1,0,1,0,0,1,1]) Q (T88b n v b c x) (mkH (b + 1) (B ++ [(b, grD (curD ds c))]) []) [])
    (hk : ∀ o, Keep H0 (mkH (b + 1) (B ++ [(b, o)]) [])) (hg : ∀ o, (mkH (b + 1) (B ++ [(b, o)]) []).get b = o) :
    Does Tryz.prog 88 [i64 (n : Int), v] H0 (sl b n) (H0.push (grD ds)) := by
  subst hb
  refine new_of_awp Tryz.func88 (c := codeOf Tryz.f88 []) rfl flatD_c2 (awp_of_awn (n := H0.next) ?_ (Nat.le_refl _))
  refine start _ ?_
  refine awn_seq (x := codeOf Tryz.f88 [1,1,0]) (y := codeOf Tryz.f88 [1,1,1]) ?_
  refine pieceT hm pCall_sound noOO_sound 0 (r88b n v _ _) rfl trivial rfl ?_
  refine awn_block (c := codeOf Tryz.f88 [1,1,0,1,0]) (awn_loop (c := codeOf Tryz.f88 [1,1,0,1,0,0])
    (fun q T H D => ∃ c, c + q = n ∧ T = T88 n v H0.next c ∧ H = mkH (H0.next + 1) (B ++ [(H0.next, grD (curD ds c))]) [] ∧ D = [])
    n ⟨_, _, _, .refl _ _ _ _ _, 0, by omega, rfl, rfl, rfl⟩ ?_)
  rintro q T H D ⟨c, hq, rfl, rfl, rfl⟩
  refine pieceT hm pCall_sound noOO_sound 0 (r88c n c v _ _) rfl trivial rfl ?_
  refine awn_seq (x := codeOf Tryz.f88 [1,1,0,1,0,0,1,0]) (y := codeOf Tryz.f88 [1,1,0,1,0,0,1,1]) ?_
  refine awn_cond (c := .tmp 11) (b := decide ((c : Int) < (n : Int))) rfl rfl ?_
  cases q with
  | zero =>
    rw [decide_eq_false (by omega)]
    refine awn_exit ?_
    refine pieceR2 pCall_sound noOO_sound (r88e v _ _ _ _ _) trivial ?_
    intro T' hres
    refine ⟨.inr rfl, rfl, _, hres, ⟨H0.next, rfl, Nat.le_refl _, ?_⟩, hk _⟩
    have e : curD ds c = ds := by
      have : c = ds.length := by omega
      simp [curD, this]
    rw [hg, e]; rfl
  | succ q =>
    rw [decide_eq_true (by omega)]
    refine awn_skip ?_
    refine step c (by omega) _ _ ?_
    intro T H D hN
    exact ⟨q, by omega, _, _, _, hN, c + 1, by omega, rfl, rfl, rfl⟩

-- the ends of the chains of one leaf
abbrev HI (i : Nat) (s : List Value) (o1 : AObj) : Heap := ⟨4, [(3, .cells zD 26), (2, .cells [i64 (i : Int)] 3), (0, .cells s 26), (1, o1)]⟩
abbrev BI (i : Nat) (s : List Value) (o1 : AObj) : List (Nat × AObj) := [(0, .cells s 26), (1, o1), (2, .cells [i64 (i : Int)] 3), (3, .cells zD 26)]
abbrev VI (i : Nat) (s : List Value) (o1 : AObj) : List AObj := [.cells s 26, o1, .cells [i64 (i : Int)] 3, .cells zD 26]
abbrev cI : Value := clv 101 #[pt 0, pt 2]
theorem r88I (i : Nat) (s zs : List Value) (o1 : AObj) : (ex3 Tryz.prog pCall (mkG Tryz.prog 8 zs) 60 (pre 1 (codeOf Tryz.f88 [])) ⟨⟨[i64 35, cI] ++ List.replicate 19 undef, HI i s o1, []⟩, True⟩).map (obs3 [0,1,5] [0,1,2,3,4])
  = some (⟨0, [i64 35, cI, sl 4 35], 21, 5, VI i s o1 ++ [.grow zs 26], []⟩, MkC 32 32 zD.toArray 35 35 zs ∧ True) := by kernel_rfl
noncomputable def ooI (s x y : Nat → Int) (i c : Nat) : OpO := orO (callO Tryz.prog (inC Tryz.prog pCall (orO (callO Tryz.prog (oneC 91 (bgG (dgf s) i c (dgf x)))) (callO Tryz.prog (oneC 90 (lkG (dgf x) 15 (dgf y))))) 60 [101])) (orO (idxO Tryz.prog 18) (stO Tryz.prog 18))
theorem ooI_sound (s x y : Nat → Int) (i c : Nat) : SoundO Tryz.prog (ooI s x y i c) := orO_sound (callO_sound (inC_sound hm pCall_sound (orO_sound (callO_sound (bg91 _ _ _ _)) (callO_sound (lk90 _ _ _))))) (orO_sound idxO_sound stO_sound)
theorem r88J (i c : Nat) (s x y : Nat → Int) (zs : List Value) (o1 : AObj) (b : Value) : (ex3 Tryz.prog pCall (ooI s x y i c) 60 (codeOf Tryz.f88 [1,1,0,1,0,0,1,1]) ⟨⟨T88b 35 cI 4 c b, mkH 5 (BI i (bytes (dgf s)) o1 ++ [(4, .grow zs 26)]) [], []⟩, True⟩).map (obs3 [1,5,9,10] [0,1,2,3,4])
  = some (⟨0, [cI, sl 4 35, i64 35, cw c], 21, 6, VI i (bytes (dgf s)) o1 ++ [.grow (splice zs (0 + c * 32) (bytes (dgf y))) 26], []⟩,
    StC (bytes (dgf y)) 32 (0 + c * 32) zs ∧ ((0 : Int) ≤ (c : Int) ∧ (c : Int) < 35) ∧ (LkC (dgf x) 15 (dgf y) (dig (dgf x)) 15 ∧ BgC (dgf s) i c (dgf x) (dig (dgf s)) (i : Int) (c : Int) ∧ True) ∧ True) := by kernel_rfl
def endsS (s : List Int) (i : Nat) : List (List Int) := (List.range 35).map fun j => lnkS 15 (begS s i j)
theorem endsS_len (s : List Int) (i : Nat) : (endsS s i).length = 35 := by simp [endsS]
theorem endsS_32 {s : List Int} {i : Nat} : ∀ d ∈ endsS s i, d.length = 32 := by
  intro d hd
  obtain ⟨j, _, rfl⟩ := List.mem_map.1 hd
  exact lnkS_len 15 (begS_len s i j)
theorem endsS_at {s : List Int} {i c : Nat} (hc : c < 35) : (endsS s i)[c]? = some (lnkS 15 (begS s i c)) := by simp [endsS, hc]
theorem curD_0 (ds : List (List Int)) : curD ds 0 = List.replicate ds.length zl := by simp [curD]
theorem does88I {s : List Int} (hs : s.length = 32) {i : Nat} (hi : i ≤ 63) {o1 : AObj} (ho : ∀ σ : Nat → Option Nat, RO σ o1 o1) :
    Does Tryz.prog 88 [i64 35, cI] (HI i (bytes s) o1) (sl 4 35) ((HI i (bytes s) o1).push (grD (endsS s i))) := by
  have hro : ∀ (σ : List (Nat × Nat)) (zs : List (List Int)), sg 4 σ 4 = some 4 → F2 (fun (p q : Nat × AObj) => sg 4 σ q.1 = some p.1 ∧ RO (sg 4 σ) p.2 q.2) (([0,1,2,3,4] : List Nat).zip (VI i (bytes s) o1 ++ [.grow (flatD zs) 26])) (BI i (bytes s) o1 ++ [(4, grD zs)]) := fun σ zs h4 =>
    .cons ⟨rfl, .cells (RV.all bytes_c2)⟩ (.cons ⟨rfl, ho _⟩ (.cons ⟨rfl, .cells (.cons (.closed rfl) .nil)⟩ (.cons ⟨rfl, .cells (RV.all bytes_c2)⟩ (.cons ⟨h4, RO.grD⟩ .nil))))
  have hcl : ∀ σ : List (Nat × Nat), RV (sg 4 σ) cI cI := fun σ => .clos (l := [pt 0, pt 2]) (m := [pt 0, pt 2]) (.cons (.ptr rfl) (.cons (.ptr rfl) .nil))
  refine list88 (b := 4) (n := 35) (B := BI i (bytes s) o1) (endsS_len s i) rfl ?_ ?_ ?_ (fun o => rfl)
  · intro Q hQ
    have hz := zeros_flat 35
    refine pieceSX pCall_sound mkG_sound 1 (r88I i (bytes s) (flatD (List.replicate 35 zl)) o1) rfl ⟨⟨by omega, by omega, by omega, by omega, by omega, rfl, by omega, by rw [hz]; rfl⟩, trivial⟩ rfl 5 [(4, 4)] (k2 := [(0, i64 35), (1, cI), (5, sl 4 35)]) rfl (.cons ⟨rfl, .closed rfl⟩ (.cons ⟨rfl, hcl _⟩ (.cons ⟨rfl, .slice rfl⟩ .nil))) (hro _ (List.replicate 35 zl) rfl) .nil ?_
    rw [curD_0, endsS_len] at hQ
    exact hQ
  · intro c hc x Q hQ
    have hx := begS_len s i c
    have hy := lnkS_len 15 hx
    have hr := r88J i c (fn s) (fn (begS s i c)) (fn (lnkS 15 (begS s i c))) (flatD (curD (endsS s i) c)) o1 x
    rw [show dgf (fn s) = s from dgf_of hs, show dgf (fn (begS s i c)) = begS s i c from dgf_of hx, show dgf (fn (lnkS 15 (begS s i c))) = lnkS 15 (begS s i c) from dgf_of hy, cw, wrap_i1 (by omega), Nat.zero_add, curD_step endsS_32 (endsS_at hc)] at hr
    refine pieceEX pCall_sound (ooI_sound _ _ _ _ _) hr ⟨⟨by rw [bytes_len, hy], by rw [flatD_len (curD_32 endsS_32 c), curD_len _ (by rw [endsS_len]; omega), endsS_len]; omega, bytes_one'⟩, ⟨by omega, by omega⟩, ⟨⟨hx, rfl, rfl, by omega, rfl⟩, ⟨hs, rfl, rfl, rfl, hi, by omega, rfl⟩, trivial⟩, trivial⟩ rfl 5 [(4, 4)] (k2 := [(1, cI), (5, sl 4 35), (9, i64 35), (10, i64 ((c + 1 : Nat) : Int))]) rfl (.cons ⟨rfl, hcl _⟩ (.cons ⟨rfl, .slice rfl⟩ (.cons ⟨rfl, .closed rfl⟩ (.cons ⟨rfl, .closed rfl⟩ .nil)))) (hro _ _ rfl) .nil ?_
    exact hQ
  · intro o
    refine ⟨by show 4 ≤ 5; omega, fun id hid => ?_⟩
    have : id = 0 ∨ id = 1 ∨ id = 2 ∨ id = 3 := by have : id < 4 := hid; omega
    rcases this with rfl | rfl | rfl | rfl <;> rfl
end Go.Abs

namespace Go.Abs
open Go.Proofs
set_option maxRecDepth 1000000

/-- The chains' ends by contract. -/
structure L88C (s : List Int) (i : Nat) (o1 : AObj) (ends : List (List Int)) (args : List Value) (H : Heap) : Prop where
  ha : args = [i64 35, cI]
  hH : H = HI i (bytes s) o1
  hs : s.length = 32
  hi : i ≤ 63
  ho : ∀ σ : Nat → Option Nat, RO σ o1 o1
  he : ends = endsS s i
def g88I (s : List Int) (i : Nat) (o1 : AObj) (ends : List (List Int)) : List Value → Heap → Option CallR := fun args H => match args with
  | [.int .i64 _, .func (.func 101) _ _] => some (.eff (sl H.next 35) (H.push (grD ends)) (L88C s i o1 ends args H))
  | _ => none
theorem l88I (s : List Int) (i : Nat) (o1 : AObj) (ends : List (List Int)) : SoundC Tryz.prog (oneC 88 (g88I s i o1 ends)) := oneC_sound fun args H r h => by
  unfold g88I at h
  split at h
  case h_2 => cases h
  cases h
  rintro ⟨h1, rfl, h3, h4, h5, rfl⟩
  rw [h1]
  exact does88I h3 h4 h5

-- the four leaves
def leavesS (s : List Int) : List (List Int) := (List.range 4).map fun i => sleafS (endsS s i)
theorem leavesS_len (s : List Int) : (leavesS s).length = 4 := by simp [leavesS]
theorem leavesS_32 {s : List Int} : ∀ d ∈ leavesS s, d.length = 32 := by
  intro d hd
  obtain ⟨j, _, rfl⟩ := List.mem_map.1 hd
  exact sleafS_len _
theorem leavesS_at {s : List Int} {c : Nat} (hc : c < 4) : (leavesS s)[c]? = some (sleafS (endsS s c)) := by simp [leavesS, hc]
abbrev cII : Value := clv 100 #[pt 0]
theorem r88K (s zs : List Value) : (ex3 Tryz.prog pCall (mkG Tryz.prog 8 zs) 60 (pre 1 (codeOf Tryz.f88 [])) ⟨⟨[i64 4, cII] ++ List.replicate 19 undef, ⟨1, [(0, .cells s 26)]⟩, []⟩, True⟩).map (obs3 [0,1,5] [0,1])
  = some (⟨0, [i64 4, cII, sl 1 4], 21, 2, [.cells s 26, .grow zs 26], []⟩, MkC 32 32 zD.toArray 4 4 zs ∧ True) := by kernel_rfl
noncomputable def ooII (s : List Int) (c : Nat) (o1 : AObj) (ends : List (List Int)) (y : Nat → Int) : OpO := orO (callO Tryz.prog (inC Tryz.prog pCall (orO (callO Tryz.prog (oneC 88 (g88I s c o1 ends))) (callO Tryz.prog (oneC 99 (slG ends (dgf y))))) 60 [100])) (orO (idxO Tryz.prog 18) (stO Tryz.prog 18))
theorem ooII_sound (s : List Int) (c : Nat) (o1 : AObj) (ends : List (List Int)) (y : Nat → Int) : SoundO Tryz.prog (ooII s c o1 ends y) := orO_sound (callO_sound (inC_sound hm pCall_sound (orO_sound (callO_sound (l88I _ _ _ _)) (callO_sound (sl99 _ _))))) (orO_sound idxO_sound stO_sound)
theorem r88L (c : Nat) (s y : Nat → Int) (zs : List Value) (ends : List (List Int)) (b : Value) : (ex3 Tryz.prog pCall (ooII (dgf s) c (.grow zs 26) ends y) 60 (codeOf Tryz.f88 [1,1,0,1,0,0,1,1]) ⟨⟨T88b 4 cII 1 c b, mkH 2 [(0, .cells (bytes (dgf s)) 26), (1, .grow zs 26)] [], []⟩, True⟩).map (obs3 [1,5,9,10] [0,1])
  = some (⟨0, [cII, sl 1 4, i64 4, cw c], 21, 5, [.cells (bytes (dgf s)) 26, .grow (splice zs (0 + c * 32) (bytes (dgf y))) 26], []⟩,
    StC (bytes (dgf y)) 32 (0 + c * 32) zs ∧ ((0 : Int) ≤ (c : Int) ∧ (c : Int) < 4) ∧ ((SliC ends 35 0 (flatD ends) ∧ 35 = 35 ∧ dgf y = sleafS ends) ∧ L88C (dgf s) c (.grow zs 26) ends [i64 35, cI] (HI c (bytes (dgf s)) (.grow zs 26)) ∧ True) ∧ True) := by kernel_rfl
theorem does88II {s : List Int} (hs : s.length = 32) : Does Tryz.prog 88 [i64 4, cII] ⟨1, [(0, .cells (bytes s) 26)]⟩ (sl 1 4) ((⟨1, [(0, .cells (bytes s) 26)]⟩ : Heap).push (grD (leavesS s))) := by
  have hro : ∀ (σ : List (Nat × Nat)) (zs : List (List Int)), sg 1 σ 1 = some 1 → F2 (fun (p q : Nat × AObj) => sg 1 σ q.1 = some p.1 ∧ RO (sg 1 σ) p.2 q.2) (([0,1] : List Nat).zip [.cells (bytes s) 26, .grow (flatD zs) 26]) ([(0, .cells (bytes s) 26)] ++ [(1, grD zs)]) := fun σ zs h4 =>
    .cons ⟨rfl, .cells (RV.all bytes_c2)⟩ (.cons ⟨h4, RO.grD⟩ .nil)
  have hcl : ∀ σ : List (Nat × Nat), RV (sg 1 σ) cII cII := fun σ => .clos (l := [pt 0]) (m := [pt 0]) (.cons (.ptr rfl) .nil)
  refine list88 (b := 1) (n := 4) (B := [(0, .cells (bytes s) 26)]) (leavesS_len s) rfl ?_ ?_ ?_ (fun o => rfl)
  · intro Q hQ
    have hz := zeros_flat 4
    refine pieceSX pCall_sound mkG_sound 1 (r88K (bytes s) (flatD (List.replicate 4 zl))) rfl ⟨⟨by omega, by omega, by omega, by omega, by omega, rfl, by omega, by rw [hz]; rfl⟩, trivial⟩ rfl 2 [(1, 1)] (k2 := [(0, i64 4), (1, cII), (5, sl 1 4)]) rfl (.cons ⟨rfl, .closed rfl⟩ (.cons ⟨rfl, hcl _⟩ (.cons ⟨rfl, .slice rfl⟩ .nil))) (hro _ (List.replicate 4 zl) rfl) .nil ?_
    rw [curD_0, leavesS_len] at hQ
    exact hQ
  · intro c hc x Q hQ
    have hy := sleafS_len (endsS s c)
    have hr := r88L c (fn s) (fn (sleafS (endsS s c))) (flatD (curD (leavesS s) c)) (endsS s c) x
    rw [show dgf (fn s) = s from dgf_of hs, show dgf (fn (sleafS (endsS s c))) = sleafS (endsS s c) from dgf_of hy, cw, wrap_i1 (by omega), Nat.zero_add, curD_step leavesS_32 (leavesS_at hc)] at hr
    have hse := sliC_self (ls := endsS s c) endsS_32
    rw [endsS_len] at hse
    refine pieceEX pCall_sound (ooII_sound _ _ _ _ _) hr ⟨⟨by rw [bytes_len, hy], by rw [flatD_len (curD_32 leavesS_32 c), curD_len _ (by rw [leavesS_len]; omega), leavesS_len]; omega, bytes_one'⟩, ⟨by omega, by omega⟩, ⟨⟨hse, rfl, rfl⟩, ⟨rfl, rfl, hs, by omega, fun σ => RO.grD, rfl⟩, trivial⟩, trivial⟩ rfl 2 [(1, 1)] (k2 := [(1, cII), (5, sl 1 4), (9, i64 4), (10, i64 ((c + 1 : Nat) : Int))]) rfl (.cons ⟨rfl, hcl _⟩ (.cons ⟨rfl, .slice rfl⟩ (.cons ⟨rfl, .closed rfl⟩ (.cons ⟨rfl, .closed rfl⟩ .nil)))) (hro _ _ rfl) .nil ?_
    exact hQ
  · intro o
    refine ⟨by show 1 ≤ 2; omega, fun id hid => ?_⟩
    have : id = 0 := by have : id < 1 := hid; omega
    subst this; rfl
structure L88D (s : List Int) (lv : List (List Int)) (args : List Value) (H : Heap) : Prop where
  ha : args = [i64 4, cII]
  hH : H = ⟨1, [(0, .cells (bytes s) 26)]⟩
  hs : s.length = 32
  he : lv = leavesS s
def g88II (s : List Int) (lv : List (List Int)) : List Value → Heap → Option CallR := fun args H => match args with
  | [.int .i64 _, .func (.func 100) _ _] => some (.eff (sl H.next 4) (H.push (grD lv)) (L88D s lv args H))
  | _ => none
theorem l88II (s : List Int) (lv : List (List Int)) : SoundC Tryz.prog (oneC 88 (g88II s lv)) := oneC_sound fun args H r h => by
  unfold g88II at h
  split at h
  case h_2 => cases h
  cases h
  rintro ⟨h1, rfl, h3, rfl⟩
  rw [h1]
  exact does88II h3
theorem r60 (s : Nat → Int) (lv : List (List Int)) : (ex3 Tryz.prog pCall (callO Tryz.prog (oneC 88 (g88II (dgf s) lv))) 60 (codeOf Tryz.f60 []) ⟨⟨[dig (dgf s)] ++ List.replicate 4 undef, ⟨0, []⟩, []⟩, True⟩).map (fin3 Tryz.prog Tryz.f60 [1])
  = some (⟨1, some (sl 1 4), 2, [grD lv], []⟩, L88D (dgf s) lv [i64 4, cII] ⟨1, [(0, .cells (bytes (dgf s)) 26)]⟩ ∧ True) := by kernel_rfl
theorem does60 (s : List Int) (hs : s.length = 32) : Does Tryz.prog 60 [dig s] ⟨0, []⟩ (sl 0 4) ((⟨0, []⟩ : Heap).push (grD (leavesS s))) := by
  refine new_of_awp Tryz.func60 (c := codeOf Tryz.f60 []) rfl flatD_c2 (awp_of_awn (n := 0) ?_ (Nat.le_refl _))
  have hr := r60 (fn s) (leavesS s)
  rw [show dgf (fn s) = s from dgf_of hs] at hr
  refine pieceF hm pCall_sound (callO_sound (l88II _ _)) hr ⟨⟨rfl, rfl, hs, rfl⟩, trivial⟩ ?_
  intro e T H he hr hn hg
  cases tag1 he
  exact ⟨.inr rfl, rfl, _, hr, ⟨1, rfl, Nat.zero_le _, hg (1, _) (.head _)⟩, keep0 _⟩

-- the reference's
abbrev T52 (v : Value) (i : Nat) : List Value := mkT 29 [(1, pt 0), (2, nilS), (3, v), (4, i64 (i : Int))] jX
abbrev T52j (v u : Value) (i j : Nat) : List Value := mkT 29 [(1, pt 0), (2, nilS), (3, v), (4, i64 (i : Int)), (5, u), (6, i64 (j : Int))] jX
abbrev T52b (v u b : Value) (i j : Nat) : List Value := mkT 29 [(1, pt 0), (2, nilS), (3, v), (4, i64 (i : Int)), (5, u), (6, i64 (j : Int)), (12, b)] jX
abbrev H52 (s : List Value) (o1 o2 : AObj) : Heap := mkH 3 [(0, .cells s 26), (1, o1), (2, o2)] []
theorem r52a (s : Nat → Int) : (ex3 Tryz.prog pCall noOO 60 (pre 1 (codeOf Tryz.f52 [])) ⟨⟨[dig (dgf s)] ++ List.replicate 28 undef, ⟨0, []⟩, []⟩, True⟩).map (obs3 [1,2,3] [0])
  = some (⟨0, [pt 0, nilS, nilS], 29, 1, [.cells (bytes (dgf s)) 26], []⟩, True) := by kernel_rfl
theorem r52b (v : Value) (H : Heap) : (ex3 Tryz.prog pCall noOO 60 (pre 0 (codeOf Tryz.f52 [1,1,0])) ⟨⟨mkT 29 [(1, pt 0), (2, nilS), (3, v)] jX, H, []⟩, True⟩).map (obsQ [1,2,3,4])
  = some (⟨0, [pt 0, nilS, v, i64 ((0 : Nat) : Int)], 29, H, []⟩, True) := by kernel_rfl
theorem r52c (v : Value) (i : Nat) (H : Heap) : (ex3 Tryz.prog pCall noOO 60 (pre 0 (codeOf Tryz.f52 [1,1,0,1,0,0,0])) ⟨⟨T52 v i, H, []⟩, True⟩).map (obsQ [1,2,3,4,8])
  = some (⟨0, [pt 0, nilS, v, i64 (i : Int), .bool (decide ((i : Int) < 4))], 29, H, []⟩, True) := by kernel_rfl
theorem r52d (v b : Value) (i : Nat) (H : Heap) : (ex3 Tryz.prog pCall noOO 60 (pre 0 (codeOf Tryz.f52 [1,1,0,1,0,0,1,0,0])) ⟨⟨mkT 29 [(1, pt 0), (2, nilS), (3, v), (4, i64 (i : Int)), (8, b)] jX, H, []⟩, True⟩).map (obsQ [1,2,3,4,5])
  = some (⟨0, [pt 0, nilS, v, i64 (i : Int), nilS], 29, H, []⟩, True) := by kernel_rfl
theorem r52e (v : Value) (i : Nat) (H : Heap) : (ex3 Tryz.prog pCall noOO 60 (pre 0 (codeOf Tryz.f52 [1,1,0,1,0,0,1,0,0,1,0])) ⟨⟨mkT 29 [(1, pt 0), (2, nilS), (3, v), (4, i64 (i : Int)), (5, nilS)] jX, H, []⟩, True⟩).map (obsQ [1,2,3,4,5,6])
  = some (⟨0, [pt 0, nilS, v, i64 (i : Int), nilS, i64 ((0 : Nat) : Int)], 29, H, []⟩, True) := by kernel_rfl
theorem r52f (v u : Value) (i j : Nat) (H : Heap) : (ex3 Tryz.prog pCall noOO 60 (pre 0 (codeOf Tryz.f52 [1,1,0,1,0,0,1,0,0,1,0,1,0,0,0])) ⟨⟨T52j v u i j, H, []⟩, True⟩).map (obsQ [1,2,3,4,5,6,12])
  = some (⟨0, [pt 0, nilS, v, i64 (i : Int), u, i64 (j : Int), .bool (decide ((j : Int) < 35))], 29, H, []⟩, True) := by kernel_rfl
noncomputable def oo52 (s x y : Nat → Int) (i j : Nat) : OpO := orO (callO Tryz.prog (oneC 94 (bgG (dgf s) i j (dgf x)))) (orO (callO Tryz.prog (oneC 93 (lkG (dgf x) 15 (dgf y)))) (appO Tryz.prog 22))
theorem oo52_sound (s x y : Nat → Int) (i j : Nat) : SoundO Tryz.prog (oo52 s x y i j) := orO_sound (callO_sound (bg94 _ _ _ _)) (orO_sound (callO_sound (lk93 _ _ _)) appO_sound)
abbrev C52 (s x y : Nat → Int) (i j : Nat) : Prop := LkC (dgf x) 15 (dgf y) (dig (dgf x)) 15 ∧ BgC (dgf s) i j (dgf x) (dig (dgf s)) (i : Int) (j : Int) ∧ True
theorem r52g (v b : Value) (i j : Nat) (s x y : Nat → Int) (o1 o2 : AObj) : (ex3 Tryz.prog pCall (oo52 s x y i j) 60 (codeOf Tryz.f52 [1,1,0,1,0,0,1,0,0,1,0,1,0,0,1]) ⟨⟨T52b v nilS b i j, H52 (bytes (dgf s)) o1 o2, []⟩, True⟩).map (obs3 [1,2,3,4,5,6] [0,4,2])
  = some (⟨0, [pt 0, nilS, v, i64 (i : Int), sl 4 1, cw j], 29, 5, [.cells (bytes (dgf s)) 26, .grow (bytes (dgf y)) 26, o2], []⟩, C52 s x y i j) := by kernel_rfl
theorem r52h (v b : Value) (i j k : Nat) (s x y : Nat → Int) (ds : List Value) (o2 : AObj) : (ex3 Tryz.prog pCall (oo52 s x y i j) 60 (codeOf Tryz.f52 [1,1,0,1,0,0,1,0,0,1,0,1,0,0,1]) ⟨⟨T52b v (sl 1 k) b i j, H52 (bytes (dgf s)) (.grow ds 26) o2, []⟩, True⟩).map (obs3 [1,2,3,4,5,6] [0,4,2])
  = some (⟨0, [pt 0, nilS, v, i64 (i : Int), sl 4 (k + 1), cw j], 29, 5, [.cells (bytes (dgf s)) 26, .grow (ds.take (k * (31 + 1)) ++ bytes (dgf y)) 26, o2], []⟩, AppC 32 31 32 26 26 0 capG k 1 0 ds (bytes (dgf y)) ∧ C52 s x y i j) := by kernel_rfl
noncomputable def oo52b (ends : List (List Int)) (y : Nat → Int) : OpO := orO (callO Tryz.prog (oneC 95 (slG ends (dgf y)))) (appO Tryz.prog 27)
theorem oo52b_sound (ends : List (List Int)) (y : Nat → Int) : SoundO Tryz.prog (oo52b ends y) := orO_sound (callO_sound (sl95 _ _)) appO_sound
abbrev E52 (ends : List (List Int)) (y : Nat → Int) (ds : List Value) : Prop := (SliC ends 35 0 ds ∧ 35 = 35 ∧ dgf y = sleafS ends) ∧ True
theorem r52i (i j : Nat) (b : Value) (s y : Nat → Int) (ends : List (List Int)) (ds : List Value) (o2 : AObj) : (ex3 Tryz.prog pCall (oo52b ends y) 60 (codeOf Tryz.f52 [1,1,0,1,0,0,1,0,0,1,1]) ⟨⟨T52b nilS (sl 1 35) b i j, H52 (bytes (dgf s)) (.grow ds 26) o2, []⟩, True⟩).map (obs3 [1,2,3,4] [0,1,4])
  = some (⟨0, [pt 0, nilS, sl 4 1, i64 (i : Int)], 29, 5, [.cells (bytes (dgf s)) 26, .grow ds 26, .grow (bytes (dgf y)) 26], []⟩, E52 ends y ds) := by kernel_rfl
theorem r52j (i j k : Nat) (b : Value) (s y : Nat → Int) (ends : List (List Int)) (ds es : List Value) : (ex3 Tryz.prog pCall (oo52b ends y) 60 (codeOf Tryz.f52 [1,1,0,1,0,0,1,0,0,1,1]) ⟨⟨T52b (sl 2 k) (sl 1 35) b i j, H52 (bytes (dgf s)) (.grow ds 26) (.grow es 26), []⟩, True⟩).map (obs3 [1,2,3,4] [0,1,4])
  = some (⟨0, [pt 0, nilS, sl 4 (k + 1), i64 (i : Int)], 29, 5, [.cells (bytes (dgf s)) 26, .grow ds 26, .grow (es.take (k * (31 + 1)) ++ bytes (dgf y)) 26], []⟩, AppC 32 31 32 26 26 0 capG k 1 0 es (bytes (dgf y)) ∧ E52 ends y ds) := by kernel_rfl
theorem r52k (k i : Nat) (s : List Value) (o1 o2 : AObj) : (ex3 Tryz.prog pCall noOO 60 (codeOf Tryz.f52 [1,1,0,1,0,0,1,1]) ⟨⟨T52 (sl 2 k) i, H52 s o1 o2, []⟩, True⟩).map (obs3 [1,2,3,4] [0,1,2])
  = some (⟨0, [pt 0, nilS, sl 2 k, cw i], 29, 3, [.cells s 26, o1, o2], []⟩, True) := by kernel_rfl
theorem r52l (v b : Value) (i : Nat) (H : Heap) : (ex3 Tryz.prog pCall noOO 60 (codeOf Tryz.f52 [1,1,1]) ⟨⟨mkT 29 [(1, pt 0), (2, nilS), (3, v), (4, i64 (i : Int)), (8, b)] jX, H, []⟩, True⟩).map (fun r => (r.1.tag, resA Tryz.prog Tryz.f52 r.2.T r.2.H, r.2.H, r.2.D, r.2.L))
  = some (1, some v, H, [], True) := by kernel_rfl
end Go.Abs

