/- For every manifest, seed and index the statements ManifestSigns and ManifestAccepts of law 40 hold, with no condition. -/
import Derived.Test.YtkkocgjpfakfpaaGreatWCg
import Derived.Test.YtkkocgjpfakfpaaGreatWBb
set_option linter.unusedSimpArgs false
set_option linter.unusedVariables false
namespace Go.Abs
open Go.Proofs
set_option maxRecDepth 1000000

/-- Nodes and pairs of a tree of digests. -/
def nodeS (d : List Int) : List Int := sumS 380 d
def pairS (a b : List Int) : List Int := sumS 381 (a ++ b)
theorem run131 (f : Nat → Int) : (runF Tryz.prog sumO 400 131 [dig (dgf f)] ⟨0, []⟩).map (·.1) = some (dig (nodeS (dgf f))) := by kernel_rfl
theorem run80 (f : Nat → Int) : (runF Tryz.prog sumO 400 80 [dig (dgf f)] ⟨0, []⟩).map (·.1) = some (dig (nodeS (dgf f))) := by kernel_rfl
theorem run136 (f g : Nat → Int) : (runF Tryz.prog sumO 400 136 [.int .u64 381, dig (dgf f), dig (dgf g)] ⟨0, []⟩).map (·.1) = some (dig (pairS (dgf f) (dgf g))) := by kernel_rfl

noncomputable def oo186 : OpO := orO (callO Tryz.prog (oneC 33 sumG)) (orO (callO Tryz.prog (oneC 36 bytG)) (appO Tryz.prog 12))
theorem oo186_sound : SoundO Tryz.prog oo186 := orO_sound (callO_sound sumG33_sound) (orO_sound (callO_sound bytG_sound) appO_sound)
theorem r186 (f g : Nat → Int) : (ex3 Tryz.prog pCall oo186 60 (codeOf Tryz.f186 []) ⟨⟨[.int .u64 381, dig (dgf f), dig (dgf g)] ++ List.replicate 11 undef, ⟨0, []⟩, []⟩, True⟩).map (fin3 Tryz.prog Tryz.f186 [])
  = some (⟨1, some (dig (pairS (dgf f) (dgf g))), 6, [], []⟩, (64 ≤ 64 ∧ 64 ≤ 1000000 ∧ ∀ v ∈ bytes (dgf f) ++ bytes (dgf g), isU8 v = true) ∧ AppC 1 0 1 5 5 0 capG 32 32 0 (bytes (dgf f)) (bytes (dgf g)) ∧ BytC (bytes (dgf g)) ∧ some (dig (dgf g)) = some (dig (dgf g)) ∧ BytC (bytes (dgf f)) ∧ True) := by kernel_rfl

theorem digs_c2 {l : List (List Int)} : (l.map dig).all c2 = true := by
  rw [List.all_eq_true]
  intro v hv
  obtain ⟨d, _, rfl⟩ := List.mem_map.1 hv
  exact dig_c2 d
theorem does131 (d : List Int) (hd : d.length = 32) (H : Heap) : Does Tryz.prog 131 [dig d] H (dig (nodeS d)) H := by
  have := run131 (fn d)
  rw [show dgf (fn d) = d from dgf_of hd] at this
  exact val_of_run sumO_sound this (dig_c2 _) (imp_closed H (digs_c2 (l := [d])))
theorem does80 (d : List Int) (hd : d.length = 32) (H : Heap) : Does Tryz.prog 80 [dig d] H (dig (nodeS d)) H := by
  have := run80 (fn d)
  rw [show dgf (fn d) = d from dgf_of hd] at this
  exact val_of_run sumO_sound this (dig_c2 _) (imp_closed H (digs_c2 (l := [d])))
theorem pair_c2 {a b : List Int} : [Value.int .u64 381, dig a, dig b].all c2 = true := by
  show (c2 (Value.int .u64 381) && (c2 (dig a) && (c2 (dig b) && true))) = true
  rw [dig_c2, dig_c2]
  rfl
theorem does136 (a b : List Int) (ha : a.length = 32) (hb : b.length = 32) (H : Heap) : Does Tryz.prog 136 [.int .u64 381, dig a, dig b] H (dig (pairS a b)) H := by
  have := run136 (fn a) (fn b)
  rw [show dgf (fn a) = a from dgf_of ha, show dgf (fn b) = b from dgf_of hb] at this
  exact val_of_run sumO_sound this (dig_c2 _) (imp_closed H pair_c2)
theorem does186 (a b : List Int) (ha : a.length = 32) (hb : b.length = 32) (H : Heap) : Does Tryz.prog 186 [.int .u64 381, dig a, dig b] H (dig (pairS a b)) H := by
  refine Does.closed (H' := ⟨0, []⟩) (val_of_awp Tryz.func186 (c := codeOf Tryz.f186 []) rfl (dig_c2 _) (awp_of_awn (n := 0) ?_ (Nat.le_refl _))) pair_c2 (dig_c2 _) H
  have hr := r186 (fn a) (fn b)
  rw [show dgf (fn a) = a from dgf_of ha, show dgf (fn b) = b from dgf_of hb] at hr
  have hap := appC_bytes (bs := a) (cs := b) (by rw [hb]; omega) (by rw [ha, hb]; omega)
  rw [ha, hb] at hap
  refine pieceF hm pCall_sound oo186_sound hr ⟨⟨Nat.le_refl _, by omega, fun v hv => ?_⟩, hap, ⟨by rw [bytes_len, hb], bytes_u8⟩, rfl, ⟨by rw [bytes_len, ha], bytes_u8⟩, trivial⟩ ?_
  · rcases List.mem_append.1 hv with hv | hv
    · exact bytes_u8 v hv
    · exact bytes_u8 v hv
  intro e T H he hr hn hg
  cases tag1 he
  exact ⟨.inr rfl, rfl, _, hr, rfl, keep0 _⟩

/-- Pairs by contract. -/
def PrC (a b : List Int) (v v' : Value) : Prop := a.length = 32 ∧ b.length = 32 ∧ v = dig a ∧ v' = dig b
def pr3 (a b : List Int) (x : List Int) : List Value → Heap → Option CallR := fun args _ => match args with
  | [.int .u64 381, v, v'] => some (.same (dig x) (PrC a b v v' ∧ x = pairS a b))
  | _ => none
def pr2 (a b : List Int) (x : List Int) : List Value → Heap → Option CallR := fun args _ => match args with
  | [v, v'] => some (.same (dig x) (PrC a b v v' ∧ x = pairS a b))
  | _ => none
def nd1 (a x : List Int) : List Value → Heap → Option CallR := fun args _ => match args with
  | [v] => some (.same (dig x) (a.length = 32 ∧ v = dig a ∧ x = nodeS a))
  | _ => none
theorem pr136 (a b x : List Int) : SoundC Tryz.prog (oneC 136 (pr3 a b x)) := oneC_sound fun args H r h => by
  unfold pr3 at h
  split at h
  case h_2 => cases h
  cases h
  rintro ⟨⟨h1, h2, rfl, rfl⟩, rfl⟩
  exact does136 a b h1 h2 H
theorem pr186 (a b x : List Int) : SoundC Tryz.prog (oneC 186 (pr3 a b x)) := oneC_sound fun args H r h => by
  unfold pr3 at h
  split at h
  case h_2 => cases h
  cases h
  rintro ⟨⟨h1, h2, rfl, rfl⟩, rfl⟩
  exact does186 a b h1 h2 H
theorem nd131 (a x : List Int) : SoundC Tryz.prog (oneC 131 (nd1 a x)) := oneC_sound fun args H r h => by
  unfold nd1 at h
  split at h
  case h_2 => cases h
  cases h
  rintro ⟨h1, rfl, rfl⟩
  exact does131 a h1 H
theorem nd80 (a x : List Int) : SoundC Tryz.prog (oneC 80 (nd1 a x)) := oneC_sound fun args H r h => by
  unfold nd1 at h
  split at h
  case h_2 => cases h
  cases h
  rintro ⟨h1, rfl, rfl⟩
  exact does80 a h1 H

theorem r134 (f g : Nat → Int) (x : List Int) : (ex3 Tryz.prog pCall (callO Tryz.prog (oneC 186 (pr3 (dgf f) (dgf g) (dgf (fn x))))) 60 (codeOf Tryz.f134 []) ⟨⟨[dig (dgf f), dig (dgf g)] ++ List.replicate 6 undef, ⟨0, []⟩, []⟩, True⟩).map (fin3 Tryz.prog Tryz.f134 [])
  = some (⟨1, some (dig (dgf (fn x))), 3, [], []⟩, (PrC (dgf f) (dgf g) (dig (dgf f)) (dig (dgf g)) ∧ dgf (fn x) = pairS (dgf f) (dgf g)) ∧ True) := by kernel_rfl
theorem pairS_len (a b : List Int) : (pairS a b).length = 32 := sumS_len _ _
theorem nodeS_len (a : List Int) : (nodeS a).length = 32 := sumS_len _ _
theorem does134 (a b : List Int) (ha : a.length = 32) (hb : b.length = 32) (H : Heap) : Does Tryz.prog 134 [dig a, dig b] H (dig (pairS a b)) H := by
  refine Does.closed (H' := ⟨0, []⟩) (val_of_awp Tryz.func134 (c := codeOf Tryz.f134 []) rfl (dig_c2 _) (awp_of_awn (n := 0) ?_ (Nat.le_refl _))) (digs_c2 (l := [a, b])) (dig_c2 _) H
  have hr := r134 (fn a) (fn b) (pairS a b)
  rw [show dgf (fn a) = a from dgf_of ha, show dgf (fn b) = b from dgf_of hb, show dgf (fn (pairS a b)) = pairS a b from dgf_of (pairS_len a b)] at hr
  refine pieceF hm pCall_sound (callO_sound (pr186 a b _)) hr ⟨⟨⟨ha, hb, rfl, rfl⟩, rfl⟩, trivial⟩ ?_
  intro e T H he hr hn hg
  cases tag1 he
  exact ⟨.inr rfl, rfl, _, hr, rfl, keep0 _⟩
theorem pr134 (a b x : List Int) : SoundC Tryz.prog (oneC 134 (pr2 a b x)) := oneC_sound fun args H r h => by
  unfold pr2 at h
  split at h
  case h_2 => cases h
  cases h
  rintro ⟨⟨h1, h2, rfl, rfl⟩, rfl⟩
  exact does134 a b h1 h2 H
end Go.Abs

namespace Go.Abs
open Go.Proofs
set_option maxRecDepth 1000000

/-- The next level of a tree. -/
def prs (ls : List (List Int)) (j : Nat) : List (List Int) := (List.range j).map fun q => pairS (ls.getD (2 * q) []) (ls.getD (2 * q + 1) [])
def upS (ls : List (List Int)) : List (List Int) := prs ls (ls.length / 2) ++ (if ls.length % 2 = 1 then [ls.getD (ls.length - 1) []] else [])
theorem prs_succ (ls : List (List Int)) (j : Nat) : prs ls (j + 1) = prs ls j ++ [pairS (ls.getD (2 * j) []) (ls.getD (2 * j + 1) [])] := by
  simp [prs, List.range_succ]
theorem prs_len (ls : List (List Int)) (j : Nat) : (prs ls j).length = j := by simp [prs]
theorem prs_32 {ls : List (List Int)} {j : Nat} : ∀ d ∈ prs ls j, d.length = 32 := by
  intro d hd
  obtain ⟨q, _, rfl⟩ := List.mem_map.1 hd
  exact pairS_len _ _
theorem upS_len (ls : List (List Int)) : (upS ls).length = (ls.length + 1) / 2 := by
  unfold upS
  rcases Nat.mod_two_eq_zero_or_one ls.length with h | h
  · rw [if_neg (by omega)]
    simp [prs_len]
    omega
  · rw [if_pos h]
    simp [prs_len]
    omega
theorem getD_32 {ls : List (List Int)} (h : ∀ d ∈ ls, d.length = 32) {i : Nat} (hi : i < ls.length) : (ls.getD i []).length = 32 ∧ ls[i]? = some (ls.getD i []) := by
  rw [List.getD_eq_getElem?_getD, List.getElem?_eq_getElem hi]
  exact ⟨h _ (List.getElem_mem hi), rfl⟩
theorem upS_32 {ls : List (List Int)} (h : ∀ d ∈ ls, d.length = 32) : ∀ d ∈ upS ls, d.length = 32 := by
  intro d hd
  unfold upS at hd
  rcases List.mem_append.1 hd with hd | hd
  · exact prs_32 d hd
  · rcases Nat.mod_two_eq_zero_or_one ls.length with h2 | h2
    · rw [if_neg (by omega)] at hd; cases hd
    · rw [if_pos h2] at hd
      have : d = ls.getD (ls.length - 1) [] := by simpa using hd
      rw [this]
      exact (getD_32 h (by omega)).1

abbrev T132 (n j : Nat) (i : Int) : List Value := mkT 44 [(0, sl 0 n), (3, sl 1 j), (4, i64 i)] jX
theorem r132a (cs : List Value) (n : Nat) : (ex3 Tryz.prog pCall (mkG Tryz.prog 9 []) 60 (pre 1 (codeOf Tryz.f132 [])) ⟨⟨[sl 0 n] ++ List.replicate 43 undef, ⟨1, [(0, .ro cs)]⟩, []⟩, True⟩).map (obs3 [0,3] [0,1])
  = some (⟨0, [sl 0 n, sl 1 0], 44, 2, [.ro cs, .grow [] 26], []⟩, MkC 32 32 (bytes (List.replicate 32 0)).toArray 0 (IntKind.i64.wrap ((IntKind.i64.wrap ((n : Int) + 1)).tdiv 2)) [] ∧ True) := by kernel_rfl
theorem r132b (n j : Nat) (H : Heap) : (ex3 Tryz.prog pCall noOO 60 (pre 0 (codeOf Tryz.f132 [1,1,0])) ⟨⟨mkT 44 [(0, sl 0 n), (3, sl 1 j)] jX, H, []⟩, True⟩).map (obsQ [0,3,4])
  = some (⟨0, [sl 0 n, sl 1 j, i64 ((2 * 0 : Nat) : Int)], 44, H, []⟩, True) := by kernel_rfl
theorem r132c (n j : Nat) (i : Int) (H : Heap) : (ex3 Tryz.prog pCall noOO 60 (pre 0 (codeOf Tryz.f132 [1,1,0,1,0,0,0])) ⟨⟨T132 n j i, H, []⟩, True⟩).map (obsQ [0,3,4,14])
  = some (⟨0, [sl 0 n, sl 1 j, i64 i, .bool (decide (IntKind.i64.wrap (i + 1) < (n : Int)))], 44, H, []⟩, True) := by kernel_rfl
noncomputable def oo132 (f g h : Nat → Int) : OpO := orO (idxO Tryz.prog 20) (orO (ldO Tryz.prog 21 (dig (dgf f))) (orO (idxO Tryz.prog 25) (orO (ldO Tryz.prog 26 (dig (dgf g))) (orO (callO Tryz.prog (oneC 136 (pr3 (dgf f) (dgf g) (dgf h)))) (appO Tryz.prog 29)))))
theorem oo132_sound (f g h : Nat → Int) : SoundO Tryz.prog (oo132 f g h) := orO_sound idxO_sound (orO_sound ldO_sound (orO_sound idxO_sound (orO_sound ldO_sound (orO_sound (callO_sound (pr136 _ _ _)) appO_sound))))
theorem r132d (f g h : Nat → Int) (cs ds : List Value) (n j : Nat) (i : Int) (b : Value) : (ex3 Tryz.prog pCall (oo132 f g h) 60 (codeOf Tryz.f132 [1,1,0,1,0,0,1]) ⟨⟨mkT 44 [(0, sl 0 n), (3, sl 1 j), (4, i64 i), (14, b)] jX, mkH 2 [(0, .ro cs), (1, .grow ds 26)] [], []⟩, True⟩).map (obs3 [0,3,4] [0,3])
  = some (⟨0, [sl 0 n, sl 3 (j + 1), i64 (IntKind.i64.wrap (i + 2))], 44, 4, [.ro cs, .grow (ds.take (j * (31 + 1)) ++ bytes (dgf h)) 26], []⟩,
    AppC 32 31 32 26 26 0 capG j 1 0 ds (bytes (dgf h)) ∧ (PrC (dgf f) (dgf g) (dig (dgf f)) (dig (dgf g)) ∧ dgf h = pairS (dgf f) (dgf g)) ∧ LdC Tryz.prog 26 (some cs) (0 + (IntKind.i64.wrap (i + 1)).toNat * 32) (dig (dgf g)) ∧ ((0 : Int) ≤ IntKind.i64.wrap (i + 1) ∧ IntKind.i64.wrap (i + 1) < (n : Int)) ∧
    LdC Tryz.prog 26 (some cs) (0 + i.toNat * 32) (dig (dgf f)) ∧ ((0 : Int) ≤ i ∧ i < (n : Int)) ∧ True) := by kernel_rfl
theorem r132e (n j : Nat) (i b : Value) (H : Heap) : (ex3 Tryz.prog pCall noOO 60 (pre 0 (codeOf Tryz.f132 [1,1,1,0])) ⟨⟨mkT 44 [(0, sl 0 n), (3, sl 1 j), (4, i), (14, b)] jX, H, []⟩, True⟩).map (obsQ [0,3,33])
  = some (⟨0, [sl 0 n, sl 1 j, .bool ((n : Int).tmod 2 == 1)], 44, H, []⟩, True) := by kernel_rfl
noncomputable def oo132b (f : Nat → Int) : OpO := orO (idxO Tryz.prog 39) (orO (ldO Tryz.prog 40 (dig (dgf f))) (appO Tryz.prog 42))
theorem oo132b_sound (f : Nat → Int) : SoundO Tryz.prog (oo132b f) := orO_sound idxO_sound (orO_sound ldO_sound appO_sound)
theorem r132f (f : Nat → Int) (cs ds : List Value) (n j : Nat) (b : Value) : (ex3 Tryz.prog pCall (oo132b f) 60 (codeOf Tryz.f132 [1,1,1,0,1,0]) ⟨⟨mkT 44 [(0, sl 0 n), (3, sl 1 j), (33, b)] jX, mkH 2 [(0, .ro cs), (1, .grow ds 26)] [], []⟩, True⟩).map (obs3 [0,3] [0,3])
  = some (⟨0, [sl 0 n, sl 3 (j + 1)], 44, 4, [.ro cs, .grow (ds.take (j * (31 + 1)) ++ bytes (dgf f)) 26], []⟩,
    AppC 32 31 32 26 26 0 capG j 1 0 ds (bytes (dgf f)) ∧ LdC Tryz.prog 26 (some cs) (0 + (IntKind.i64.wrap ((n : Int) - 1)).toNat * 32) (dig (dgf f)) ∧ ((0 : Int) ≤ IntKind.i64.wrap ((n : Int) - 1) ∧ IntKind.i64.wrap ((n : Int) - 1) < (n : Int)) ∧ True) := by kernel_rfl
theorem r132g (cs ds : List Value) (n j : Nat) : (ex3 Tryz.prog pCall noOO 60 (codeOf Tryz.f132 [1,1,1,1]) ⟨⟨mkT 44 [(0, sl 0 n), (3, sl 1 j)] jX, mkH 2 [(0, .ro cs), (1, .grow ds 26)] [], []⟩, True⟩).map (fin3 Tryz.prog Tryz.f132 [0,1])
  = some (⟨1, some (sl 1 j), 2, [.ro cs, .grow ds 26], []⟩, True) := by kernel_rfl

theorem wrapI {n : Int} (h0 : -1000000000 ≤ n) (h : n ≤ 1000000000) : IntKind.i64.wrap n = n := by
  simp [IntKind.wrap, IntKind.bits, IntKind.signed]
  omega
theorem appD' {ds : List (List Int)} {d : List Int} (hd : d.length = 32) (h : ∀ d ∈ ds, d.length = 32) (hn : ds.length ≤ 1000000) : AppC 32 31 32 26 26 0 capG ds.length 1 0 (flatD ds) (bytes d) := by
  have := appD (f := fn d) h hn
  rwa [show dgf (fn d) = d from dgf_of hd] at this

abbrev H132 (cs : List Value) (ds : List (List Int)) : Heap := mkH 2 [(0, .ro cs), (1, grD ds)] []
theorem does132 {ls : List (List Int)} (h : ∀ d ∈ ls, d.length = 32) (h1 : 1 ≤ ls.length) (hb : ls.length ≤ 1000) :
    Does Tryz.prog 132 [sl 0 ls.length] ⟨1, [(0, .ro (flatD ls))]⟩ (.slice (some ⟨1, 0, none⟩) (upS ls).length capG) ((⟨1, [(0, .ro (flatD ls))]⟩ : Heap).push (grD (upS ls))) := by
  refine new_of_awp Tryz.func132 (c := codeOf Tryz.f132 []) rfl flatD_c2 (awp_of_awn (n := 1) ?_ (Nat.le_refl _))
  generalize hn : ls.length = n at *
  have hro : ∀ (σ : Nat → Option Nat), RO σ (.ro (flatD ls)) (.ro (flatD ls)) := fun σ => .ro (RV.all flatD_c2)
  have hw1 : IntKind.i64.wrap ((n : Int) + 1) = (n : Int) + 1 := wrapI (by omega) (by omega)
  have hdv : ((n : Int) + 1).tdiv 2 = ((n : Int) + 1) / 2 := Int.tdiv_eq_ediv_of_nonneg (by omega)
  have hw2 : IntKind.i64.wrap (((n : Int) + 1) / 2) = ((n : Int) + 1) / 2 := wrapI (by omega) (by omega)
  refine pieceS hm pCall_sound mkG_sound 1 (r132a (flatD ls) n) rfl ⟨?_, trivial⟩ rfl 2 [(1, 1)] (os2 := [(0, .ro (flatD ls)), (1, grD (prs ls 0))]) rfl (.cons ⟨rfl, hro _⟩ (.cons ⟨rfl, .grow .nil⟩ .nil)) .nil ?_
  · rw [hw1, hdv, hw2]
    refine ⟨by omega, by omega, by omega, by omega, by omega, rfl, by omega, by simp [zerosOf]⟩
  refine awn_seq (x := codeOf Tryz.f132 [1,1,0]) (y := codeOf Tryz.f132 [1,1,1]) ?_
  refine pieceT hm pCall_sound noOO_sound 0 (r132b n 0 _) rfl trivial rfl ?_
  refine awn_block (c := codeOf Tryz.f132 [1,1,0,1,0]) (awn_loop (c := codeOf Tryz.f132 [1,1,0,1,0,0])
    (fun k T H D => ∃ j, j + k = n / 2 ∧ T = T132 n j ((2 * j : Nat) : Int) ∧ H = H132 (flatD ls) (prs ls j) ∧ D = [])
    (n / 2) ⟨_, _, _, .refl _ _ _ _ _, 0, by omega, rfl, rfl, rfl⟩ ?_)
  rintro k T H D ⟨j, hk, rfl, rfl, rfl⟩
  refine awn_seq (x := codeOf Tryz.f132 [1,1,0,1,0,0,0]) (y := codeOf Tryz.f132 [1,1,0,1,0,0,1]) ?_
  refine pieceT hm pCall_sound noOO_sound 0 (r132c n j _ _) rfl trivial rfl ?_
  refine awn_cond (c := .tmp 14) (b := decide (IntKind.i64.wrap (((2 * j : Nat) : Int) + 1) < (n : Int))) rfl rfl ?_
  have hw3 : IntKind.i64.wrap (((2 * j : Nat) : Int) + 1) = ((2 * j + 1 : Nat) : Int) := by rw [wrapI (by omega) (by omega)]; omega
  rw [hw3]
  cases k with
  | zero =>
    rw [decide_eq_false (by omega)]
    refine awn_exit ?_
    -- the rest
    refine awn_seq (x := codeOf Tryz.f132 [1,1,1,0]) (y := codeOf Tryz.f132 [1,1,1,1]) ?_
    refine pieceT hm pCall_sound noOO_sound 0 (r132e n j _ _ _) rfl trivial rfl ?_
    refine awn_cond (c := .tmp 33) (b := ((n : Int).tmod 2 == 1)) rfl rfl ?_
    have hj : j = n / 2 := by omega
    have hfin : ∀ (ds : List (List Int)), ds = upS ls → Awn Tryz.prog 1 (codeOf Tryz.f132 [1,1,1,1]) (fun ex T' H' D' => (ex = .normal ∨ ex = .ret) ∧ (D'.all fun d => quietDefer Tryz.prog d.1 && callable Tryz.prog d.1) = true ∧ ∃ u, resA Tryz.prog Tryz.f132 T' H' = some u ∧ (∃ id, u = .slice (some ⟨id, 0, none⟩) (upS ls).length capG ∧ (⟨1, [(0, .ro (flatD ls))]⟩ : Heap).next ≤ id ∧ H'.get id = grD (upS ls)) ∧ Keep ⟨1, [(0, .ro (flatD ls))]⟩ H')
        (mkT 44 [(0, sl 0 n), (3, sl 1 ds.length)] jX) (H132 (flatD ls) ds) [] := by
      rintro ds rfl
      refine pieceF hm pCall_sound noOO_sound (r132g _ _ n _) trivial ?_
      intro e T H he hr hn hg
      cases tag1 he
      exact ⟨.inr rfl, rfl, _, hr, ⟨1, rfl, Nat.le_refl _, hg (1, _) (.tail _ (.head _))⟩, keep1 (by rw [hn]; show 1 ≤ 2; omega) (hg (0, _) (.head _))⟩
    rcases Nat.mod_two_eq_zero_or_one n with h2 | h2
    · rw [show ((n : Int).tmod 2 == 1) = false by rw [Int.tmod_eq_emod_of_nonneg (by omega)]; simp; omega]
      refine awn_skip ?_
      have e : prs ls j = upS ls := by unfold upS; rw [hn, if_neg (by omega), hj]; simp
      have := hfin _ e
      rw [prs_len] at this
      exact awn_nrm (nrm_drop 2) this
    · rw [show ((n : Int).tmod 2 == 1) = true by rw [Int.tmod_eq_emod_of_nonneg (by omega)]; simp; omega]
      obtain ⟨hl1, hl2⟩ := getD_32 h (i := n - 1) (by omega)
      have hw4 : IntKind.i64.wrap ((n : Int) - 1) = ((n - 1 : Nat) : Int) := by rw [wrapI (by omega) (by omega)]; omega
      have hr := r132f (fn (ls.getD (n - 1) [])) (flatD ls) (flatD (prs ls j)) n j (.bool true)
      have htk := take_flatD (ds := prs ls j) prs_32 (ls.getD (n - 1) [])
      rw [prs_len] at htk
      rw [show dgf (fn (ls.getD (n - 1) [])) = ls.getD (n - 1) [] from dgf_of hl1, hw4, htk] at hr
      have hap := appD' hl1 (prs_32 (ls := ls) (j := j)) (by rw [prs_len]; omega)
      rw [prs_len] at hap
      have hld := flatD_at h hl2
      have so := oo132b_sound (fn (ls.getD (n - 1) []))
      refine pieceE hm pCall_sound so hr ⟨hap, hld, ⟨by omega, by omega⟩, trivial⟩ rfl 2 [(1, 3)] (os2 := [(0, .ro (flatD ls)), (1, grD (prs ls j ++ [ls.getD (n - 1) []]))]) rfl (.cons ⟨rfl, hro _⟩ (.cons ⟨rfl, RO.grD⟩ .nil)) .nil ?_
      intro T H D hN
      have e : prs ls j ++ [ls.getD (n - 1) []] = upS ls := by unfold upS; rw [hn, if_pos h2, hj]
      have := hfin _ e
      rw [show (prs ls j ++ [ls.getD (n - 1) []]).length = j + 1 by simp [prs_len]] at this
      exact awn_nrm hN this
  | succ k =>
    rw [decide_eq_true (by omega)]
    refine awn_skip ?_
    obtain ⟨hl1, hl2⟩ := getD_32 h (i := 2 * j) (by omega)
    obtain ⟨hl3, hl4⟩ := getD_32 h (i := 2 * j + 1) (by omega)
    have hr := r132d (fn (ls.getD (2 * j) [])) (fn (ls.getD (2 * j + 1) [])) (fn (pairS (ls.getD (2 * j) []) (ls.getD (2 * j + 1) []))) (flatD ls) (flatD (prs ls j)) n j ((2 * j : Nat) : Int) (.bool true)
    have htk := take_flatD (ds := prs ls j) prs_32 (pairS (ls.getD (2 * j) []) (ls.getD (2 * j + 1) []))
    rw [prs_len, ← prs_succ] at htk
    have hw5 : IntKind.i64.wrap (((2 * j : Nat) : Int) + 2) = ((2 * (j + 1) : Nat) : Int) := by rw [wrapI (by omega) (by omega)]; omega
    rw [show dgf (fn (ls.getD (2 * j) [])) = ls.getD (2 * j) [] from dgf_of hl1, show dgf (fn (ls.getD (2 * j + 1) [])) = ls.getD (2 * j + 1) [] from dgf_of hl3, show dgf (fn (pairS (ls.getD (2 * j) []) (ls.getD (2 * j + 1) []))) = pairS (ls.getD (2 * j) []) (ls.getD (2 * j + 1) []) from dgf_of (pairS_len _ _), hw3, hw5, htk] at hr
    have hap := appD' (pairS_len (ls.getD (2 * j) []) (ls.getD (2 * j + 1) [])) (prs_32 (ls := ls) (j := j)) (by rw [prs_len]; omega)
    rw [prs_len] at hap
    have so := oo132_sound (fn (ls.getD (2 * j) [])) (fn (ls.getD (2 * j + 1) [])) (fn (pairS (ls.getD (2 * j) []) (ls.getD (2 * j + 1) [])))
    refine pieceE hm pCall_sound so hr ⟨hap, ⟨⟨hl1, hl3, rfl, rfl⟩, rfl⟩, flatD_at h hl4, ⟨by omega, by omega⟩, flatD_at h hl2, ⟨by omega, by omega⟩, trivial⟩ rfl 2 [(1, 3)] (os2 := [(0, .ro (flatD ls)), (1, grD (prs ls (j + 1)))]) rfl (.cons ⟨rfl, hro _⟩ (.cons ⟨rfl, RO.grD⟩ .nil)) .nil ?_
    intro T H D hN
    exact ⟨k, by omega, _, _, _, hN, j + 1, by omega, rfl, rfl, rfl⟩
end Go.Abs

namespace Go.Abs
open Go.Proofs
set_option maxRecDepth 1000000

theorem r81a (cs : List Value) (n : Nat) : (ex3 Tryz.prog pCall noOO 60 (pre 1 (codeOf Tryz.f81 [])) ⟨⟨[sl 0 n] ++ List.replicate 36 undef, ⟨1, [(0, .ro cs)]⟩, []⟩, True⟩).map (obsQ [0,3])
  = some (⟨0, [sl 0 n, nilS], 37, ⟨1, [(0, .ro cs)]⟩, []⟩, True) := by kernel_rfl
theorem r81b (n : Nat) (v : Value) (H : Heap) : (ex3 Tryz.prog pCall noOO 60 (pre 0 (codeOf Tryz.f81 [1,1,0])) ⟨⟨mkT 37 [(0, sl 0 n), (3, v)] jX, H, []⟩, True⟩).map (obsQ [0,3,4])
  = some (⟨0, [sl 0 n, v, i64 ((2 * 0 : Nat) : Int)], 37, H, []⟩, True) := by kernel_rfl
theorem r81c (n : Nat) (v : Value) (i : Int) (H : Heap) : (ex3 Tryz.prog pCall noOO 60 (pre 0 (codeOf Tryz.f81 [1,1,0,1,0,0,0])) ⟨⟨mkT 37 [(0, sl 0 n), (3, v), (4, i64 i)] jX, H, []⟩, True⟩).map (obsQ [0,3,4,8])
  = some (⟨0, [sl 0 n, v, i64 i, .bool (decide (i < (n : Int)))], 37, H, []⟩, True) := by kernel_rfl
noncomputable def oo81a (f g h : Nat → Int) : OpO := orO (forceO Tryz.prog 15 (.bool true)) (orO (idxO Tryz.prog 19) (orO (ldO Tryz.prog 20 (dig (dgf f))) (orO (idxO Tryz.prog 24) (orO (ldO Tryz.prog 25 (dig (dgf g))) (orO (callO Tryz.prog (oneC 134 (pr2 (dgf f) (dgf g) (dgf h)))) (appO Tryz.prog 28))))))
theorem oo81a_sound (f g h : Nat → Int) : SoundO Tryz.prog (oo81a f g h) := orO_sound forceO_sound (orO_sound idxO_sound (orO_sound ldO_sound (orO_sound idxO_sound (orO_sound ldO_sound (orO_sound (callO_sound (pr134 _ _ _)) appO_sound)))))
theorem r81d (f g h : Nat → Int) (cs : List Value) (n : Nat) (i : Int) (b : Value) : (ex3 Tryz.prog pCall (oo81a f g h) 60 (codeOf Tryz.f81 [1,1,0,1,0,0,1]) ⟨⟨mkT 37 [(0, sl 0 n), (3, nilS), (4, i64 i), (8, b)] jX, mkH 1 [(0, .ro cs)] [], []⟩, True⟩).map (obs3 [0,3,4] [0,2])
  = some (⟨0, [sl 0 n, sl 2 1, i64 (IntKind.i64.wrap (i + 2))], 37, 3, [.ro cs, .grow (bytes (dgf h)) 26], []⟩,
    (PrC (dgf f) (dgf g) (dig (dgf f)) (dig (dgf g)) ∧ dgf h = pairS (dgf f) (dgf g)) ∧ LdC Tryz.prog 26 (some cs) (0 + (IntKind.i64.wrap (i + 1)).toNat * 32) (dig (dgf g)) ∧ ((0 : Int) ≤ IntKind.i64.wrap (i + 1) ∧ IntKind.i64.wrap (i + 1) < (n : Int)) ∧
    LdC Tryz.prog 26 (some cs) (0 + i.toNat * 32) (dig (dgf f)) ∧ ((0 : Int) ≤ i ∧ i < (n : Int)) ∧ some (Value.bool (decide (IntKind.i64.wrap (i + 1) < (n : Int)))) = some (Value.bool true) ∧ True) := by kernel_rfl
theorem r81e (f g h : Nat → Int) (cs ds : List Value) (n j : Nat) (i : Int) (b : Value) : (ex3 Tryz.prog pCall (oo81a f g h) 60 (codeOf Tryz.f81 [1,1,0,1,0,0,1]) ⟨⟨mkT 37 [(0, sl 0 n), (3, sl 1 j), (4, i64 i), (8, b)] jX, mkH 2 [(0, .ro cs), (1, .grow ds 26)] [], []⟩, True⟩).map (obs3 [0,3,4] [0,3])
  = some (⟨0, [sl 0 n, sl 3 (j + 1), i64 (IntKind.i64.wrap (i + 2))], 37, 4, [.ro cs, .grow (ds.take (j * (31 + 1)) ++ bytes (dgf h)) 26], []⟩,
    AppC 32 31 32 26 26 0 capG j 1 0 ds (bytes (dgf h)) ∧ (PrC (dgf f) (dgf g) (dig (dgf f)) (dig (dgf g)) ∧ dgf h = pairS (dgf f) (dgf g)) ∧ LdC Tryz.prog 26 (some cs) (0 + (IntKind.i64.wrap (i + 1)).toNat * 32) (dig (dgf g)) ∧ ((0 : Int) ≤ IntKind.i64.wrap (i + 1) ∧ IntKind.i64.wrap (i + 1) < (n : Int)) ∧
    LdC Tryz.prog 26 (some cs) (0 + i.toNat * 32) (dig (dgf f)) ∧ ((0 : Int) ≤ i ∧ i < (n : Int)) ∧ some (Value.bool (decide (IntKind.i64.wrap (i + 1) < (n : Int)))) = some (Value.bool true) ∧ True) := by kernel_rfl
noncomputable def oo81b (f : Nat → Int) : OpO := orO (forceO Tryz.prog 15 (.bool false)) (orO (idxO Tryz.prog 32) (orO (ldO Tryz.prog 33 (dig (dgf f))) (appO Tryz.prog 35)))
theorem oo81b_sound (f : Nat → Int) : SoundO Tryz.prog (oo81b f) := orO_sound forceO_sound (orO_sound idxO_sound (orO_sound ldO_sound appO_sound))
theorem r81f (f : Nat → Int) (cs ds : List Value) (n j : Nat) (i : Int) (b : Value) : (ex3 Tryz.prog pCall (oo81b f) 60 (codeOf Tryz.f81 [1,1,0,1,0,0,1]) ⟨⟨mkT 37 [(0, sl 0 n), (3, sl 1 j), (4, i64 i), (8, b)] jX, mkH 2 [(0, .ro cs), (1, .grow ds 26)] [], []⟩, True⟩).map (obs3 [0,3,4] [0,3])
  = some (⟨0, [sl 0 n, sl 3 (j + 1), i64 (IntKind.i64.wrap (i + 2))], 37, 4, [.ro cs, .grow (ds.take (j * (31 + 1)) ++ bytes (dgf f)) 26], []⟩,
    AppC 32 31 32 26 26 0 capG j 1 0 ds (bytes (dgf f)) ∧ LdC Tryz.prog 26 (some cs) (0 + i.toNat * 32) (dig (dgf f)) ∧ ((0 : Int) ≤ i ∧ i < (n : Int)) ∧ some (Value.bool (decide (IntKind.i64.wrap (i + 1) < (n : Int)))) = some (Value.bool false) ∧ True) := by kernel_rfl
theorem r81g (cs ds : List Value) (n j : Nat) (i b : Value) : (ex3 Tryz.prog pCall noOO 60 (codeOf Tryz.f81 [1,1,1]) ⟨⟨mkT 37 [(0, sl 0 n), (3, sl 1 j), (4, i), (8, b)] jX, mkH 2 [(0, .ro cs), (1, .grow ds 26)] [], []⟩, True⟩).map (fin3 Tryz.prog Tryz.f81 [0,1])
  = some (⟨1, some (sl 1 j), 2, [.ro cs, .grow ds 26], []⟩, True) := by kernel_rfl

theorem upS_pair {ls : List (List Int)} {j : Nat} (hj : j < ls.length / 2) : (upS ls)[j]? = some (pairS (ls.getD (2 * j) []) (ls.getD (2 * j + 1) [])) := by
  unfold upS
  rw [List.getElem?_append_left (by rw [prs_len]; exact hj)]
  simp [prs, hj]
theorem upS_last {ls : List (List Int)} (h : ls.length % 2 = 1) : (upS ls)[ls.length / 2]? = some (ls.getD (ls.length - 1) []) := by
  unfold upS
  rw [List.getElem?_append_right (by rw [prs_len]; exact Nat.le_refl _), if_pos h, prs_len]
  simp
theorem take_snoc {α : Type} {l : List α} {j : Nat} {x : α} (h : l[j]? = some x) : l.take (j + 1) = l.take j ++ [x] := by
  rw [List.take_add_one, h]; rfl
theorem take_32 {ls : List (List Int)} (h : ∀ d ∈ ls, d.length = 32) (j : Nat) : ∀ d ∈ ls.take j, d.length = 32 := fun d hd => h d (List.mem_of_mem_take hd)

abbrev T81 (n : Nat) (v : Value) (j : Nat) : List Value := mkT 37 [(0, sl 0 n), (3, v), (4, i64 ((2 * j : Nat) : Int))] jX
theorem does81 {ls : List (List Int)} (h : ∀ d ∈ ls, d.length = 32) (h1 : 2 ≤ ls.length) (hb : ls.length ≤ 1000) :
    Does Tryz.prog 81 [sl 0 ls.length] ⟨1, [(0, .ro (flatD ls))]⟩ (.slice (some ⟨1, 0, none⟩) (upS ls).length capG) ((⟨1, [(0, .ro (flatD ls))]⟩ : Heap).push (grD (upS ls))) := by
  refine new_of_awp Tryz.func81 (c := codeOf Tryz.f81 []) rfl flatD_c2 (awp_of_awn (n := 1) ?_ (Nat.le_refl _))
  have hul := upS_len ls
  have hu32 := upS_32 h
  generalize hn : ls.length = n at *
  have hro : ∀ (σ : Nat → Option Nat), RO σ (.ro (flatD ls)) (.ro (flatD ls)) := fun σ => .ro (RV.all flatD_c2)
  refine pieceT hm pCall_sound noOO_sound 1 (r81a (flatD ls) n) rfl trivial rfl ?_
  refine awn_seq (x := codeOf Tryz.f81 [1,1,0]) (y := codeOf Tryz.f81 [1,1,1]) ?_
  refine pieceT hm pCall_sound noOO_sound 0 (r81b n _ _) rfl trivial rfl ?_
  refine awn_block (c := codeOf Tryz.f81 [1,1,0,1,0]) (awn_loop (c := codeOf Tryz.f81 [1,1,0,1,0,0])
    (fun k T H D => ∃ j, j + k = (n + 1) / 2 ∧ ((j = 0 ∧ T = T81 n nilS j ∧ H = mkH 1 [(0, .ro (flatD ls))] []) ∨ (1 ≤ j ∧ T = T81 n (sl 1 j) j ∧ H = H132 (flatD ls) ((upS ls).take j))) ∧ D = [])
    ((n + 1) / 2) ⟨_, _, _, .refl _ _ _ _ _, 0, by omega, .inl ⟨rfl, rfl, rfl⟩, rfl⟩ ?_)
  rintro k T H D ⟨j, hk, hcase, rfl⟩
  have hw3 : IntKind.i64.wrap (((2 * j : Nat) : Int) + 1) = ((2 * j + 1 : Nat) : Int) := by rw [wrapI (by omega) (by omega)]; omega
  have hw5 : IntKind.i64.wrap (((2 * j : Nat) : Int) + 2) = ((2 * (j + 1) : Nat) : Int) := by rw [wrapI (by omega) (by omega)]; omega
  rcases hcase with ⟨rfl, rfl, rfl⟩ | ⟨hj, rfl, rfl⟩
  · refine awn_seq (x := codeOf Tryz.f81 [1,1,0,1,0,0,0]) (y := codeOf Tryz.f81 [1,1,0,1,0,0,1]) ?_
    refine pieceT hm pCall_sound noOO_sound 0 (r81c n _ _ _) rfl trivial rfl ?_
    refine awn_cond (c := .tmp 8) (b := decide (((2 * 0 : Nat) : Int) < (n : Int))) rfl rfl ?_
    cases k with
    | zero => omega
    | succ k =>
      rw [decide_eq_true (by omega)]
      refine awn_skip ?_
      obtain ⟨hl1, hl2⟩ := getD_32 h (i := 2 * 0) (by omega)
      obtain ⟨hl3, hl4⟩ := getD_32 h (i := 2 * 0 + 1) (by omega)
      have hup := upS_pair (ls := ls) (j := 0) (by omega)
      have hr := r81d (fn (ls.getD (2 * 0) [])) (fn (ls.getD (2 * 0 + 1) [])) (fn (pairS (ls.getD (2 * 0) []) (ls.getD (2 * 0 + 1) []))) (flatD ls) n ((2 * 0 : Nat) : Int) (.bool true)
      rw [show dgf (fn (ls.getD (2 * 0) [])) = ls.getD (2 * 0) [] from dgf_of hl1, show dgf (fn (ls.getD (2 * 0 + 1) [])) = ls.getD (2 * 0 + 1) [] from dgf_of hl3, show dgf (fn (pairS (ls.getD (2 * 0) []) (ls.getD (2 * 0 + 1) []))) = pairS (ls.getD (2 * 0) []) (ls.getD (2 * 0 + 1) []) from dgf_of (pairS_len _ _), hw3, hw5] at hr
      have so := oo81a_sound (fn (ls.getD (2 * 0) [])) (fn (ls.getD (2 * 0 + 1) [])) (fn (pairS (ls.getD (2 * 0) []) (ls.getD (2 * 0 + 1) [])))
      refine pieceE hm pCall_sound so hr ⟨⟨⟨hl1, hl3, rfl, rfl⟩, rfl⟩, flatD_at h hl4, ⟨by omega, by omega⟩, flatD_at h hl2, ⟨by omega, by omega⟩, by rw [decide_eq_true (by omega)], trivial⟩ rfl 2 [(1, 2)] (os2 := [(0, .ro (flatD ls)), (1, grD ((upS ls).take (0 + 1)))]) rfl (.cons ⟨rfl, hro _⟩ (.cons ⟨rfl, ?_⟩ .nil)) .nil ?_
      · rw [take_snoc hup]
        have : (bytes (pairS (ls.getD (2 * 0) []) (ls.getD (2 * 0 + 1) []))) = flatD ([] ++ [pairS (ls.getD (2 * 0) []) (ls.getD (2 * 0 + 1) [])]) := by simp [flatD]
        rw [this]
        exact RO.grD
      intro T H D hN
      exact ⟨k, by omega, _, _, _, hN, 0 + 1, by omega, .inr ⟨by omega, rfl, rfl⟩, rfl⟩
  · refine awn_seq (x := codeOf Tryz.f81 [1,1,0,1,0,0,0]) (y := codeOf Tryz.f81 [1,1,0,1,0,0,1]) ?_
    refine pieceT hm pCall_sound noOO_sound 0 (r81c n _ _ _) rfl trivial rfl ?_
    refine awn_cond (c := .tmp 8) (b := decide (((2 * j : Nat) : Int) < (n : Int))) rfl rfl ?_
    have htl : ((upS ls).take j).length = j := by rw [List.length_take]; omega
    have ht32 := take_32 hu32 j
    cases k with
    | zero =>
      rw [decide_eq_false (by omega)]
      refine awn_exit ?_
      have e : (upS ls).take j = upS ls := List.take_of_length_le (by omega)
      rw [e] at htl
      rw [e, ← htl]
      refine pieceF hm pCall_sound noOO_sound (r81g _ _ n _ _ _) trivial ?_
      intro e T H he hr hn hg
      cases tag1 he
      exact ⟨.inr rfl, rfl, _, hr, ⟨1, rfl, Nat.le_refl _, hg (1, _) (.tail _ (.head _))⟩, keep1 (by rw [hn]; show 1 ≤ 2; omega) (hg (0, _) (.head _))⟩
    | succ k =>
      rw [decide_eq_true (by omega)]
      refine awn_skip ?_
      by_cases hp : 2 * j + 1 < n
      · obtain ⟨hl1, hl2⟩ := getD_32 h (i := 2 * j) (by omega)
        obtain ⟨hl3, hl4⟩ := getD_32 h (i := 2 * j + 1) (by omega)
        have hup := upS_pair (ls := ls) (j := j) (by omega)
        have hr := r81e (fn (ls.getD (2 * j) [])) (fn (ls.getD (2 * j + 1) [])) (fn (pairS (ls.getD (2 * j) []) (ls.getD (2 * j + 1) []))) (flatD ls) (flatD ((upS ls).take j)) n j ((2 * j : Nat) : Int) (.bool true)
        have htk := take_flatD ht32 (pairS (ls.getD (2 * j) []) (ls.getD (2 * j + 1) []))
        rw [htl, ← take_snoc hup] at htk
        rw [show dgf (fn (ls.getD (2 * j) [])) = ls.getD (2 * j) [] from dgf_of hl1, show dgf (fn (ls.getD (2 * j + 1) [])) = ls.getD (2 * j + 1) [] from dgf_of hl3, show dgf (fn (pairS (ls.getD (2 * j) []) (ls.getD (2 * j + 1) []))) = pairS (ls.getD (2 * j) []) (ls.getD (2 * j + 1) []) from dgf_of (pairS_len _ _), hw3, hw5, htk] at hr
        have hap := appD' (pairS_len (ls.getD (2 * j) []) (ls.getD (2 * j + 1) [])) ht32 (by omega)
        rw [htl] at hap
        have so := oo81a_sound (fn (ls.getD (2 * j) [])) (fn (ls.getD (2 * j + 1) [])) (fn (pairS (ls.getD (2 * j) []) (ls.getD (2 * j + 1) [])))
        refine pieceE hm pCall_sound so hr ⟨hap, ⟨⟨hl1, hl3, rfl, rfl⟩, rfl⟩, flatD_at h hl4, ⟨by omega, by omega⟩, flatD_at h hl2, ⟨by omega, by omega⟩, by rw [decide_eq_true (by omega)], trivial⟩ rfl 2 [(1, 3)] (os2 := [(0, .ro (flatD ls)), (1, grD ((upS ls).take (j + 1)))]) rfl (.cons ⟨rfl, hro _⟩ (.cons ⟨rfl, RO.grD⟩ .nil)) .nil ?_
        intro T H D hN
        exact ⟨k, by omega, _, _, _, hN, j + 1, by omega, .inr ⟨by omega, rfl, rfl⟩, rfl⟩
      · have hodd : ls.length % 2 = 1 := by omega
        have hj2 : j = ls.length / 2 := by omega
        obtain ⟨hl1, hl2⟩ := getD_32 h (i := 2 * j) (by omega)
        have hup := upS_last hodd
        rw [← hj2, show ls.length - 1 = 2 * j by omega] at hup
        have hr := r81f (fn (ls.getD (2 * j) [])) (flatD ls) (flatD ((upS ls).take j)) n j ((2 * j : Nat) : Int) (.bool true)
        have htk := take_flatD ht32 (ls.getD (2 * j) [])
        rw [htl, ← take_snoc hup] at htk
        rw [show dgf (fn (ls.getD (2 * j) [])) = ls.getD (2 * j) [] from dgf_of hl1, hw3, hw5, htk] at hr
        have hap := appD' hl1 ht32 (by omega)
        rw [htl] at hap
        refine pieceE hm pCall_sound (oo81b_sound _) hr ⟨hap, flatD_at h hl2, ⟨by omega, by omega⟩, by rw [decide_eq_false (by omega)], trivial⟩ rfl 2 [(1, 3)] (os2 := [(0, .ro (flatD ls)), (1, grD ((upS ls).take (j + 1)))]) rfl (.cons ⟨rfl, hro _⟩ (.cons ⟨rfl, RO.grD⟩ .nil)) .nil ?_
        intro T H D hN
        exact ⟨k, by omega, _, _, _, hN, j + 1, by omega, .inr ⟨by omega, rfl, rfl⟩, rfl⟩

/-- A row of digests, wherever it lies. -/
def SliC (ls : List (List Int)) (n off : Nat) (cs : List Value) : Prop := (∀ d ∈ ls, d.length = 32) ∧ n = ls.length ∧ off + n * 32 ≤ cs.length ∧ (cs.drop off).take (n * 32) = flatD ls
def upG (ls : List (List Int)) : List Value → Heap → Option CallR := fun args H => match args with
  | [.slice (some ⟨id, off, none⟩) n _] => (match H.row id with
    | some cs => some (.eff (sl H.next (upS ls).length) (H.push (grD (upS ls))) (SliC ls n off cs ∧ 2 ≤ n ∧ n ≤ 1000))
    | none => none)
  | _ => none
theorem upG_key (ls : List (List Int)) {k : FuncId} (hk : (∀ d ∈ ls, d.length = 32) → 2 ≤ ls.length → ls.length ≤ 1000 → Does Tryz.prog k [sl 0 ls.length] ⟨1, [(0, .ro (flatD ls))]⟩ (.slice (some ⟨1, 0, none⟩) (upS ls).length capG) ((⟨1, [(0, .ro (flatD ls))]⟩ : Heap).push (grD (upS ls)))) :
    SoundC Tryz.prog (oneC k (upG ls)) := oneC_sound fun args H r h => by
  unfold upG at h
  split at h
  case h_2 => cases h
  rename_i id off n c
  split at h
  case h_2 => cases h
  rename_i cs hr
  cases h
  rintro ⟨⟨g1, rfl, g3, g4⟩, g5, g6⟩
  exact frame_new (hk g1 g5 g6) rfl flatD_c2 (imp_slice (P := Tryz.prog) (H := H) (id := id) (off := off) (c := c) (n := ls.length) (m := ls.length * 32) (pre := []) (post := []) rfl rfl hr g4 g3 flatD_c2)
theorem up132 (ls : List (List Int)) : SoundC Tryz.prog (oneC 132 (upG ls)) := upG_key ls fun h h1 h2 => does132 h (by omega) h2
theorem up81 (ls : List (List Int)) : SoundC Tryz.prog (oneC 81 (upG ls)) := upG_key ls fun h h1 h2 => does81 h h1 h2
end Go.Abs

namespace Go.Abs
open Go.Proofs
set_option maxRecDepth 1000000

/-- The root over the top of a tree. -/
def sealS (top : List Int) (n : Nat) : List Int := sumS 382 (top ++ vint (n : Int))
theorem vint_small {n : Nat} (h : n ≤ 63) : ∃ b, vint (n : Int) = [b] := by
  have hz : zz (n : Int) = 2 * (n : Int) := by
    unfold zz zz0
    rw [if_neg (by omega)]
    simp only [IntKind.wrap, IntKind.bits, IntKind.signed, Bool.false_and, Bool.false_eq_true, if_false]
    omega
  refine ⟨IntKind.u8.wrap (2 * (n : Int)), ?_⟩
  unfold vint vF
  rw [hz, if_neg (by omega)]
def vsG (bs : List Int) : List Value → Heap → Option CallR := fun args H => match args with
  | [.slice none 0 0, .int .i64 n] => some (.eff (sl H.next bs.length) (H.push (gr (bytes bs))) (bs = vint n))
  | _ => none
def vsH (bs : List Int) : List Value → Heap → Option CallR := fun args H => match args with
  | [.int .i64 n] => some (.eff (sl H.next bs.length) (H.push (gr (bytes bs))) (bs = vint n))
  | _ => none
theorem vsG_sound (bs : List Int) : SoundC Tryz.prog (oneC 124 (vsG bs)) := oneC_sound fun args H r h => by
  unfold vsG at h
  split at h
  case h_2 => cases h
  cases h
  rintro rfl
  exact frame_new (does124 _) rfl bytes_c2 (imp_closed H rfl)
theorem vsH_sound (bs : List Int) : SoundC Tryz.prog (oneC 129 (vsH bs)) := oneC_sound fun args H r h => by
  unfold vsH at h
  split at h
  case h_2 => cases h
  rename_i n
  cases h
  rintro rfl
  exact intG_sound.eff 129 _ H _ _ _ (by simp only [oneC, Nat.beq_refl, cond_true, intG]) trivial
noncomputable def kC : CallF := runF Tryz.prog sumO 400
theorem kC_sound : ∀ f args H v h, kC f args H = some (v, h) → Does Tryz.prog f args H v (h.getD H) := fun _ _ _ _ _ h => runF_sound hm sumO_sound h
theorem r79 (f : Nat → Int) (n : Nat) (b : Int) : (ex3 Tryz.prog kC (callO Tryz.prog (oneC 124 (vsG [b]))) 60 (codeOf Tryz.f79 []) ⟨⟨[dig (dgf f), i64 (n : Int)] ++ List.replicate 7 undef, ⟨0, []⟩, []⟩, True⟩).map (fin3 Tryz.prog Tryz.f79 [])
  = some (⟨1, some (dig (sumS 382 (dgf f ++ [b]))), 9, [], []⟩, [b] = vint (n : Int) ∧ some (dig (dgf f)) = some (dig (dgf f)) ∧ True) := by kernel_rfl
theorem r82 (f : Nat → Int) (n : Nat) (b : Int) : (ex3 Tryz.prog kC (callO Tryz.prog (oneC 129 (vsH [b]))) 60 (codeOf Tryz.f82 []) ⟨⟨[dig (dgf f), i64 (n : Int)] ++ List.replicate 7 undef, ⟨0, []⟩, []⟩, True⟩).map (fin3 Tryz.prog Tryz.f82 [])
  = some (⟨1, some (dig (sumS 382 (dgf f ++ [b]))), 72, [], []⟩, [b] = vint (n : Int) ∧ some (dig (dgf f)) = some (dig (dgf f)) ∧ True) := by kernel_rfl
theorem seal_c2 {d : List Int} {n : Int} : [dig d, i64 n].all c2 = true := by
  show (c2 (dig d) && (c2 (i64 n) && true)) = true
  rw [dig_c2]
  rfl
theorem does79 (d : List Int) (hd : d.length = 32) (n : Nat) (hn : n ≤ 63) (H : Heap) : Does Tryz.prog 79 [dig d, i64 (n : Int)] H (dig (sealS d n)) H := by
  refine Does.closed (H' := ⟨0, []⟩) (val_of_awp Tryz.func79 (c := codeOf Tryz.f79 []) rfl (dig_c2 _) (awp_of_awn (n := 0) ?_ (Nat.le_refl _))) seal_c2 (dig_c2 _) H
  obtain ⟨b, hb⟩ := vint_small hn
  have hr := r79 (fn d) n b
  rw [show dgf (fn d) = d from dgf_of hd] at hr
  refine pieceF hm kC_sound (callO_sound (vsG_sound [b])) hr ⟨hb.symm, rfl, trivial⟩ ?_
  intro e T H he hr hn hg
  cases tag1 he
  exact ⟨.inr rfl, rfl, _, hr, by rw [sealS, hb], keep0 _⟩
theorem does82 (d : List Int) (hd : d.length = 32) (n : Nat) (hn : n ≤ 63) (H : Heap) : Does Tryz.prog 82 [dig d, i64 (n : Int)] H (dig (sealS d n)) H := by
  refine Does.closed (H' := ⟨0, []⟩) (val_of_awp Tryz.func82 (c := codeOf Tryz.f82 []) rfl (dig_c2 _) (awp_of_awn (n := 0) ?_ (Nat.le_refl _))) seal_c2 (dig_c2 _) H
  obtain ⟨b, hb⟩ := vint_small hn
  have hr := r82 (fn d) n b
  rw [show dgf (fn d) = d from dgf_of hd] at hr
  refine pieceF hm kC_sound (callO_sound (vsH_sound [b])) hr ⟨hb.symm, rfl, trivial⟩ ?_
  intro e T H he hr hn hg
  cases tag1 he
  exact ⟨.inr rfl, rfl, _, hr, by rw [sealS, hb], keep0 _⟩
def SeC (top x : List Int) (v : Value) (k : Int) (n : Nat) : Prop := top.length = 32 ∧ v = dig top ∧ k = (n : Int) ∧ n ≤ 63 ∧ x = sealS top n
def seG (top : List Int) (n : Nat) (x : List Int) : List Value → Heap → Option CallR := fun args _ => match args with
  | [v, .int .i64 k] => some (.same (dig x) (SeC top x v k n))
  | _ => none
theorem se79 (top : List Int) (n : Nat) (x : List Int) : SoundC Tryz.prog (oneC 79 (seG top n x)) := oneC_sound fun args H r h => by
  unfold seG at h
  split at h
  case h_2 => cases h
  cases h
  rintro ⟨h1, rfl, rfl, h4, rfl⟩
  exact does79 top h1 n h4 H
theorem se82 (top : List Int) (n : Nat) (x : List Int) : SoundC Tryz.prog (oneC 82 (seG top n x)) := oneC_sound fun args H r h => by
  unfold seG at h
  split at h
  case h_2 => cases h
  cases h
  rintro ⟨h1, rfl, rfl, h4, rfl⟩
  exact does82 top h1 n h4 H

/-- The top of a tree. -/
def topS : Nat → List (List Int) → List Int
  | 0, ls => ls.getD 0 (List.replicate 32 0)
  | k + 1, ls => if ls.length ≤ 1 then ls.getD 0 (List.replicate 32 0) else topS k (upS ls)
theorem topS_len (k : Nat) : ∀ {ls : List (List Int)}, (∀ d ∈ ls, d.length = 32) → (topS k ls).length = 32 := by
  induction k with
  | zero =>
    intro ls h
    unfold topS
    cases ls with
    | nil => rfl
    | cons a l => exact h a (List.mem_cons_self ..)
  | succ k ih =>
    intro ls h
    unfold topS
    split
    · cases ls with
      | nil => rfl
      | cons a l => exact h a (List.mem_cons_self ..)
    · exact ih (upS_32 h)
/-- The root of leaves. -/
def rootS (ls : List (List Int)) : List Int := sealS (topS ls.length (ls.map nodeS)) ls.length
end Go.Abs

namespace Go.Abs
open Go.Proofs
set_option maxRecDepth 1000000

theorem Does.ext {P : Program} {f : FuncId} {args : List Value} {H H0 H' : Heap} {v : Value} (h : Does P f args H v H') (hn : H0.next ≤ H.next) (hg : ∀ x, H.get x = H0.get x) : Does P f args H0 v H' :=
  fun B E w args' hH hA => h B E w args' (hH.ext hn hg) hA

theorem pickT_RV {σ : Nat → Option Nat} {X : Nat → Value} (hX : ∀ i, RV σ (X i) (X i)) {t : Nat} : ∀ {k k2 : List (Nat × Value)}, F2 (fun (p q : Nat × Value) => p.1 = q.1 ∧ RV σ p.2 q.2) k k2 → RV σ (pickT k X t) (pickT k2 X t)
  | _, _, .nil => hX t
  | (a, v) :: _, (b, v2) :: _, .cons ⟨h1, h2⟩ tl => by
    simp only at h1 h2
    subst h1
    simp only [pickT]
    cases Nat.beq a t with
    | true => exact h2
    | false => exact pickT_RV hX tl
theorem F2.mapR {α β γ : Type} {R : β → γ → Prop} {f : α → β} {g : α → γ} (h : ∀ a, R (f a) (g a)) : ∀ l : List α, F2 R (l.map f) (l.map g)
  | [] => .nil
  | a :: l => .cons (h a) (F2.mapR h l)
theorem mkT_RV {σ : Nat → Option Nat} {m : Nat} {k k2 : List (Nat × Value)} (h : F2 (fun (p q : Nat × Value) => p.1 = q.1 ∧ RV σ p.2 q.2) k k2) : F2 (RV σ) (mkT m k jX) (mkT m k2 jX) :=
  F2.mapR (fun _ => pickT_RV (fun _ => .junk) h) _
theorem RV.clo {σ : Nat → Option Nat} {f : FuncId} {i : Nat} (h : σ i = some i) : RV σ (.func (.func f) #[] #[pt i]) (.func (.func f) #[] #[pt i]) := fun E u hv => by
  cases hv with
  | func _ _ a' _ c' hf h1 h2 h3 h4 =>
    refine .func _ _ a' _ c' hf h1 h2 (fun j => ?_) (fun j => ?_)
    · have := h3 j; simp at this ⊢; rw [eq_of_c2 this (by simp [c2, undef])]; exact .undef _
    · have := h4 j
      cases j with
      | zero =>
        have e : (#[pt i] : Array Value).getD 0 undef = pt i := rfl
        rw [e] at this ⊢
        exact RV.ptr h E _ this
      | succ j =>
        have e : (#[pt i] : Array Value).getD (j + 1) undef = undef := by simp [Array.getD]
        rw [e] at this ⊢
        rw [eq_of_c2 this (by simp [c2, undef])]
        exact .undef _

def zl : List Int := List.replicate 32 0
def zD : List Value := bytes zl
abbrev cl130 : Value := .func (.func 130) #[] #[pt 4]
abbrev T38 (n : Nat) : List Value := mkT 21 [(0, sl 0 n), (2, pt 1), (3, pt 2), (4, pt 3), (12, cl130)] jX
noncomputable def c38 : Code := codeOf Tryz.f38 [1,1,1,1,0,1,0]
abbrev yv : Value := .func (.yield 7) #[] #[]
noncomputable abbrev HT (n : Nat) (cs top : List Value) (k : Nat) (l : List (Nat × AObj)) : Heap := mkH k ([(6, .lp (T38 n) c38 false), (5, .df), (0, .ro cs), (1, .cells zD 26), (2, .cells [i64 0] 43), (3, .cells top 26), (4, .cells [sl 0 n] 27)] ++ l) []
abbrev obT : List Nat := [6,5,0,1,2,3,4]
noncomputable abbrev oT (n : Nat) (cs top : List Value) : List AObj := [.lp (T38 n) c38 false, .df, .ro cs, .cells zD 26, .cells [i64 0] 43, .cells top 26, .cells [sl 0 n] 27]

theorem r130a (n : Nat) (cs top : List Value) : (ex3 Tryz.prog pCall noOO 60 (pre 0 (codeOf Tryz.f130 [0])) ⟨⟨[yv, pt 4] ++ List.replicate 33 undef, HT n cs top 7 [], []⟩, True⟩).map (obsQ [0,1,8])
  = some (⟨0, [yv, pt 4, .bool ((n : Int) == 0)], 35, HT n cs top 7 [], []⟩, True) := by kernel_rfl
theorem r130b (n : Nat) (cs top zs : List Value) (b : Value) : (ex3 Tryz.prog pCall (mkG Tryz.prog 11 zs) 60 (pre 0 (codeOf Tryz.f130 [1])) ⟨⟨mkT 35 [(0, yv), (1, pt 4), (8, b)] jX, HT n cs top 7 [], []⟩, True⟩).map (obs3 [0,1,3] (obT ++ [7]))
  = some (⟨0, [yv, pt 4, sl 7 n], 35, 8, oT n cs top ++ [.grow zs 26], []⟩, MkC 32 32 zD.toArray (n : Int) (n : Int) zs ∧ True) := by kernel_rfl
theorem r130c (n : Nat) (cs top zs : List Value) : (ex3 Tryz.prog pCall noOO 60 (pre 0 (codeOf Tryz.f130 [1,1,0])) ⟨⟨mkT 35 [(0, yv), (1, pt 4), (3, sl 7 n)] jX, HT n cs top 8 [(7, .grow zs 26)], []⟩, True⟩).map (obsQ [0,1,3,12,13,14])
  = some (⟨0, [yv, pt 4, sl 7 n, sl 0 n, i64 (n : Int), i64 ((0 : Nat) : Int)], 35, HT n cs top 8 [(7, .grow zs 26)], []⟩, True) := by kernel_rfl
theorem r130d (n : Nat) (i : Int) (H : Heap) : (ex3 Tryz.prog pCall noOO 60 (pre 0 (codeOf Tryz.f130 [1,1,0,1,0,0])) ⟨⟨mkT 35 [(0, yv), (1, pt 4), (3, sl 7 n), (12, sl 0 n), (13, i64 n), (14, i64 i)] jX, H, []⟩, True⟩).map (obsQ [0,1,3,12,13,14,15])
  = some (⟨0, [yv, pt 4, sl 7 n, sl 0 n, i64 (n : Int), i64 i, .bool (decide (i < (n : Int)))], 35, H, []⟩, True) := by kernel_rfl
noncomputable def oo130 (f g : Nat → Int) : OpO := orO (idxO Tryz.prog 17) (orO (ldO Tryz.prog 18 (dig (dgf f))) (orO (callO Tryz.prog (oneC 131 (nd1 (dgf f) (dgf g)))) (orO (idxO Tryz.prog 23) (stO Tryz.prog 23))))
theorem oo130_sound (f g : Nat → Int) : SoundO Tryz.prog (oo130 f g) := orO_sound idxO_sound (orO_sound ldO_sound (orO_sound (callO_sound (nd131 _ _)) (orO_sound idxO_sound stO_sound)))
theorem r130e (n : Nat) (i : Int) (f g : Nat → Int) (cs top zs : List Value) (b : Value) : (ex3 Tryz.prog pCall (oo130 f g) 60 (codeOf Tryz.f130 [1,1,0,1,0,0,1,1]) ⟨⟨mkT 35 [(0, yv), (1, pt 4), (3, sl 7 n), (12, sl 0 n), (13, i64 n), (14, i64 i), (15, b)] jX, HT n cs top 8 [(7, .grow zs 26)], []⟩, True⟩).map (obs3 [0,1,3,12,13,14] (obT ++ [7]))
  = some (⟨0, [yv, pt 4, sl 7 n, sl 0 n, i64 (n : Int), i64 (IntKind.i64.wrap (i + 1))], 35, 9, oT n cs top ++ [.grow (splice zs (0 + i.toNat * 32) (bytes (dgf g))) 26], []⟩,
    StC (bytes (dgf g)) 32 (0 + i.toNat * 32) zs ∧ ((0 : Int) ≤ i ∧ i < (n : Int)) ∧ ((dgf f).length = 32 ∧ dig (dgf f) = dig (dgf f) ∧ dgf g = nodeS (dgf f)) ∧ LdC Tryz.prog 26 (some cs) (0 + i.toNat * 32) (dig (dgf f)) ∧ ((0 : Int) ≤ i ∧ i < (n : Int)) ∧ True) := by kernel_rfl
noncomputable def oo130y (f : Nat → Int) : OpO := yldO Tryz.prog pCall (orO (idxO Tryz.prog 15) (ldO Tryz.prog 16 (dig (dgf f)))) 60 27
theorem oo130y_sound (f : Nat → Int) : SoundO Tryz.prog (oo130y f) := yldO_sound hm pCall_sound (orO_sound idxO_sound ldO_sound)
theorem r130f (n k : Nat) (f top : Nat → Int) (cs zs : List Value) : (ex3 Tryz.prog pCall (oo130y f) 60 (pre 0 (codeOf Tryz.f130 [1,1,1,0,0,0])) ⟨⟨mkT 35 [(0, yv), (1, pt 4), (3, sl 7 k)] jX, HT n cs (bytes (dgf top)) 8 [(7, .grow zs 26)], []⟩, True⟩).map (obs3 [0,1,3,32] (obT ++ [7]))
  = some (⟨0, [yv, pt 4, sl 7 k, .bool (decide ((k : Int) > 1))], 35, 8, oT n cs (bytes (dgf f)) ++ [.grow zs 26], []⟩,
    (LpC (.lp (T38 n) c38 false) (T38 n) c38 false ∧ LpC (.lp (T38 n) c38 true) (T38 n) c38 true ∧ LdC Tryz.prog 26 (some zs) 0 (dig (dgf f)) ∧ ((0 : Int) ≤ 0 ∧ (0 : Int) < (k : Int)) ∧ True) ∧ True) := by kernel_rfl
theorem r130g (n k m : Nat) (ks : List (List Int)) (cs top zs : List Value) (b : Value) : (ex3 Tryz.prog pCall (callO Tryz.prog (oneC 132 (upG ks))) 60 (codeOf Tryz.f130 [1,1,1,0,0,1]) ⟨⟨mkT 35 [(0, yv), (1, pt 4), (3, sl 7 k), (32, b)] jX, HT n cs top 8 [(7, .grow zs 26)], []⟩, True⟩).map (obs3 [0,1,3] (obT ++ [8]))
  = some (⟨0, [yv, pt 4, sl 8 (upS ks).length], 35, 9, oT n cs top ++ [grD (upS ks)], []⟩, (SliC ks k 0 zs ∧ 2 ≤ k ∧ k ≤ 1000) ∧ True) := by kernel_rfl
end Go.Abs

namespace Go.Abs
open Go.Proofs
set_option maxRecDepth 1000000

theorem T38_RV {σ : Nat → Option Nat} {n : Nat} (h0 : σ 0 = some 0) (h1 : σ 1 = some 1) (h2 : σ 2 = some 2) (h3 : σ 3 = some 3) (h4 : σ 4 = some 4) : F2 (RV σ) (T38 n) (T38 n) :=
  mkT_RV (.cons ⟨rfl, .slice h0⟩ (.cons ⟨rfl, .ptr h1⟩ (.cons ⟨rfl, .ptr h2⟩ (.cons ⟨rfl, .ptr h3⟩ (.cons ⟨rfl, .clo h4⟩ .nil)))))

/-- The objects of the loop over the levels, under the same names. -/
theorem obsT {n i j : Nat} {s : List (Nat × Nat)} {cs top : List Value} {o o2 : AObj} (hc : ∀ v ∈ cs, c2 v = true) (ht : ∀ v ∈ top, c2 v = true) (hj : sg 7 s j = some i) (ho : RO (sg 7 s) o o2) :
    F2 (fun (p q : Nat × AObj) => sg 7 s q.1 = some p.1 ∧ RO (sg 7 s) p.2 q.2) ((obT ++ [i]).zip (oT n cs top ++ [o])) ([(6, .lp (T38 n) c38 false), (5, .df), (0, .ro cs), (1, .cells zD 26), (2, .cells [i64 0] 43), (3, .cells top 26), (4, .cells [sl 0 n] 27)] ++ [(j, o2)]) :=
  .cons ⟨rfl, .lp (T38_RV rfl rfl rfl rfl rfl)⟩ (.cons ⟨rfl, .df⟩ (.cons ⟨rfl, .ro (RV.all hc)⟩ (.cons ⟨rfl, .cells (RV.all bytes_c2)⟩ (.cons ⟨rfl, .cells (.cons (.closed rfl) .nil)⟩ (.cons ⟨rfl, .cells (RV.all ht)⟩ (.cons ⟨rfl, .cells (.cons (.slice rfl) .nil)⟩ (.cons ⟨hj, ho⟩ .nil)))))))

/-- The nodes laid so far. -/
def curS (ls : List (List Int)) (i : Nat) : List (List Int) := (ls.take i).map nodeS ++ List.replicate (ls.length - i) zl
theorem curS_32 (ls : List (List Int)) (i : Nat) : ∀ d ∈ curS ls i, d.length = 32 := by
  intro d hd
  rcases List.mem_append.1 hd with hd | hd
  · obtain ⟨x, _, rfl⟩ := List.mem_map.1 hd; exact nodeS_len _
  · rw [List.eq_of_mem_replicate hd]; rfl
theorem flatD_app (a b : List (List Int)) : flatD (a ++ b) = flatD a ++ flatD b := by simp [flatD]
theorem curS_step {ls : List (List Int)} {i : Nat} {d : List Int} (hi : ls[i]? = some d) : splice (flatD (curS ls i)) (i * 32) (bytes (nodeS d)) = flatD (curS ls (i + 1)) := by
  have hlt : i < ls.length := (List.getElem?_eq_some_iff.1 hi).1
  have hl1 : (flatD ((ls.take i).map nodeS)).length = i * 32 := by
    rw [flatD_len (fun x hx => by obtain ⟨y, _, rfl⟩ := List.mem_map.1 hx; exact nodeS_len _)]
    simp; omega
  have hl2 : (bytes (nodeS d)).length = 32 := by rw [bytes_len, nodeS_len]
  have hz : (flatD [zl]).length = 32 := rfl
  unfold splice curS
  rw [show ls.length - i = (ls.length - (i + 1)) + 1 by omega, List.replicate_succ, take_snoc hi, List.map_append, flatD_app, flatD_app, flatD_app]
  rw [show flatD (zl :: List.replicate (ls.length - (i + 1)) zl) = flatD [zl] ++ flatD (List.replicate (ls.length - (i + 1)) zl) from rfl]
  rw [List.take_left' hl1, hl2]
  have e1 : (flatD ((ls.take i).map nodeS) ++ (flatD [zl] ++ flatD (List.replicate (ls.length - (i + 1)) zl))).drop (i * 32 + 32) = flatD (List.replicate (ls.length - (i + 1)) zl) := by
    rw [← List.append_assoc, List.drop_left']
    rw [List.length_append, hl1, hz]
  rw [e1]
  simp [flatD]
theorem bytes_one' {bs : List Int} : (bytes bs).all one = true := List.all_eq_true.2 bytes_one
theorem rep_at (n j : Nat) (v : Value) (h : j < n) : (List.replicate n v).toArray[j]! = v := by simp [h]
theorem zeros_flat (n : Nat) : flatD (List.replicate n zl) = (zerosOf zD.toArray (n * 32)).toList := by
  apply List.ext_getElem?
  intro i
  have hl : (flatD (List.replicate n zl)).length = n * 32 := by rw [flatD_len (fun x hx => by rw [List.eq_of_mem_replicate hx]; rfl)]; simp
  have hall : ∀ v ∈ flatD (List.replicate n zl), v = .int .u8 0 := by
    intro v hv
    obtain ⟨d, hd, hv⟩ := List.mem_flatMap.1 hv
    rw [List.eq_of_mem_replicate hd] at hv
    obtain ⟨b, hb, rfl⟩ := List.mem_map.1 hv
    rw [List.eq_of_mem_replicate hb]
  by_cases hi : i < n * 32
  · rw [List.getElem?_eq_getElem (by omega), hall _ (List.getElem_mem _)]
    have hm : i % 32 < 32 := Nat.mod_lt _ (by omega)
    have hz : ∀ j, j < 32 → (zD.toArray)[j]! = .int .u8 0 := by
      intro j hj
      have : zD = List.replicate 32 (.int .u8 0) := by rw [zD, bytes, zl, List.map_replicate]
      rw [this]
      exact rep_at 32 j _ hj
    simp only [zerosOf, Array.toList_map, Array.toList_range, List.getElem?_map, List.getElem?_range, hi, Option.map_some]
    have e : zD.toArray.size = 32 := rfl
    rw [e, hz _ hm]
  · rw [List.getElem?_eq_none (by omega), List.getElem?_eq_none (by simp [zerosOf]; omega)]

theorem topS_one {q : Nat} {ks : List (List Int)} (h : ks.length ≤ 1) : topS q ks = ks.getD 0 zl := by
  cases q with
  | zero => rfl
  | succ q => unfold topS; rw [if_pos h]; rfl

abbrev T130 (k : Nat) : List Value := mkT 35 [(0, yv), (1, pt 4), (3, sl 7 k)] jX
theorem does130 {ls : List (List Int)} (h : ∀ d ∈ ls, d.length = 32) (h1 : 1 ≤ ls.length) (hb : ls.length ≤ 1000) :
    Does Tryz.prog 130 [yv, pt 4] (HT ls.length (flatD ls) zD 7 []) (.tuple #[]) (HT ls.length (flatD ls) (bytes (topS ls.length (ls.map nodeS))) 7 []) := by
  refine does_of_awp Tryz.func130 (c := codeOf Tryz.f130 []) rfl (awp_of_awn (n := 7) ?_ (Nat.le_refl _))
  generalize hn : ls.length = n at *
  refine awn_seq (x := codeOf Tryz.f130 [0]) (y := codeOf Tryz.f130 [1]) ?_
  refine pieceT hm pCall_sound noOO_sound 0 (r130a n _ _) rfl trivial rfl ?_
  refine awn_cond (c := .tmp 8) (b := ((n : Int) == 0)) rfl rfl ?_
  rw [show ((n : Int) == 0) = false by simp; omega]
  refine awn_skip ?_
  have hz := zeros_flat n
  refine pieceS hm pCall_sound mkG_sound 0 (r130b n _ _ (flatD (List.replicate n zl)) _) rfl ⟨⟨by omega, by omega, by omega, by omega, by omega, rfl, by omega, by rw [hz]; rfl⟩, trivial⟩ rfl 8 [(7, 7)] rfl (obsT (i := 7) (j := 7) flatD_c2 bytes_c2 rfl (RO.grD (ds := List.replicate n zl))) .nil ?_
  refine awn_seq (x := codeOf Tryz.f130 [1,1,0]) (y := codeOf Tryz.f130 [1,1,1]) ?_
  refine pieceT hm pCall_sound noOO_sound 0 (r130c n _ _ _) rfl trivial rfl ?_
  refine awn_block (c := codeOf Tryz.f130 [1,1,0,1,0]) (awn_loop (c := codeOf Tryz.f130 [1,1,0,1,0,0])
    (fun k T H D => ∃ i, i + k = n ∧ T = mkT 35 [(0, yv), (1, pt 4), (3, sl 7 n), (12, sl 0 n), (13, i64 (n : Int)), (14, i64 (i : Int))] jX ∧ H = HT n (flatD ls) zD 8 [(7, grD (curS ls i))] ∧ D = [])
    n ⟨_, _, _, .refl _ _ _ _ _, 0, by omega, rfl, by simp [curS, hn, grD], rfl⟩ ?_)
  rintro k T H D ⟨i, hk, rfl, rfl, rfl⟩
  refine pieceT hm pCall_sound noOO_sound 0 (r130d n _ _) rfl trivial rfl ?_
  refine awn_seq (x := codeOf Tryz.f130 [1,1,0,1,0,0,1,0]) (y := codeOf Tryz.f130 [1,1,0,1,0,0,1,1]) ?_
  refine awn_cond (c := .tmp 15) (b := decide ((i : Int) < (n : Int))) rfl rfl ?_
  cases k with
  | succ k =>
    rw [decide_eq_true (by omega)]
    refine awn_skip ?_
    obtain ⟨hl1, hl2⟩ := getD_32 h (i := i) (by omega)
    generalize ls.getD i [] = d at hl1 hl2
    have hr := r130e n (i : Int) (fn d) (fn (nodeS d)) (flatD ls) zD (flatD (curS ls i)) (.bool true)
    have hw := wrap_i1 (i := i) (by omega)
    have hst := curS_step hl2
    rw [show dgf (fn d) = d from dgf_of hl1, show dgf (fn (nodeS d)) = nodeS d from dgf_of (nodeS_len d), hw, Int.toNat_natCast, Nat.zero_add, hst] at hr
    have hld := flatD_at h hl2
    rw [Nat.zero_add] at hld
    have hcl : (flatD (curS ls i)).length = n * 32 := by
      rw [flatD_len (curS_32 ls i)]
      simp [curS, hn]
      omega
    refine pieceE hm pCall_sound (oo130_sound _ _) hr ⟨⟨by rw [bytes_len, nodeS_len], by rw [hcl]; omega, bytes_one'⟩, ⟨by omega, by omega⟩, ⟨hl1, rfl, rfl⟩, hld, ⟨by omega, by omega⟩, trivial⟩ rfl 8 [(7, 7)] rfl (obsT (i := 7) (j := 7) flatD_c2 bytes_c2 rfl (RO.grD (ds := curS ls (i + 1)))) .nil ?_
    intro T H D hN
    exact ⟨k, by omega, _, _, _, hN, i + 1, by omega, rfl, rfl, rfl⟩
  | zero =>
    rw [decide_eq_false (by omega)]
    refine awn_exit ?_
    have e0 : curS ls i = ls.map nodeS := by
      have : i = ls.length := by omega
      simp [curS, this]
    refine awn_nrm (nrm_drop 3) ?_
    rw [e0]
    have hln : (ls.map nodeS).length = n := by simpa using hn
    have hn32 : ∀ d ∈ ls.map nodeS, d.length = 32 := fun d hd => by obtain ⟨x, _, rfl⟩ := List.mem_map.1 hd; exact nodeS_len _
    refine awn_block (c := codeOf Tryz.f130 [1,1,1,0]) (awn_loop (c := codeOf Tryz.f130 [1,1,1,0,0])
      (fun m T H D => ∃ (ks : List (List Int)) (top : List Int) (q : Nat), ks.length = m ∧ 1 ≤ ks.length ∧ ks.length ≤ 1000 ∧ (∀ d ∈ ks, d.length = 32) ∧ top.length = 32 ∧ ks.length ≤ q + 1 ∧ topS q ks = topS n (ls.map nodeS) ∧ T = T130 ks.length ∧ H = HT n (flatD ls) (bytes top) 8 [(7, grD ks)] ∧ D = [])
      n ⟨_, _, _, .refl _ _ _ _ _, ls.map nodeS, zl, n, hln, by omega, by omega, hn32, rfl, by omega, rfl, by rw [hln]; rfl, rfl, rfl⟩ ?_)
    rintro m T H D ⟨ks, top, q, hm', hk1, hk2, hk32, htl, hq, htop, rfl, rfl, rfl⟩
    refine awn_seq (x := codeOf Tryz.f130 [1,1,1,0,0,0]) (y := codeOf Tryz.f130 [1,1,1,0,0,1]) ?_
    obtain ⟨hl1, hl2⟩ := getD_32 hk32 (i := 0) (by omega)
    have hr := r130f n ks.length (fn (ks.getD 0 [])) (fn top) (flatD ls) (flatD ks)
    rw [show dgf (fn (ks.getD 0 [])) = ks.getD 0 [] from dgf_of hl1, show dgf (fn top) = top from dgf_of htl] at hr
    have hld := flatD_at hk32 hl2
    rw [show 0 + 0 * 32 = 0 from rfl] at hld
    refine pieceS hm pCall_sound (oo130y_sound _) 0 hr rfl ⟨⟨rfl, rfl, hld, ⟨by omega, by omega⟩, trivial⟩, trivial⟩ rfl 8 [(7, 7)] rfl (obsT (i := 7) (j := 7) flatD_c2 bytes_c2 rfl (RO.grD (ds := ks))) .nil ?_
    refine awn_cond (c := .tmp 32) (b := decide ((ks.length : Int) > 1)) rfl rfl ?_
    by_cases h2 : ks.length ≤ 1
    · rw [decide_eq_false (by omega)]
      have ht : topS n (ls.map nodeS) = ks.getD 0 [] := by
        rw [← htop, topS_one h2]
        cases ks with
        | nil => simp at hk1
        | cons a l => rfl
      rw [ht]
      have hN : Nrm Tryz.prog 7 (mkT 35 (rnT 7 [(7, 7)] (([0,1,3,32] : List Nat).zip [yv, pt 4, sl 7 ks.length, .bool false])) jX) (HT n (flatD ls) (bytes (ks.getD 0 [])) 8 [(7, grD ks)]) [] (mkT 35 (rnT 7 [] []) jX) (HT n (flatD ls) (bytes (ks.getD 0 [])) 7 []) [] := by
        refine fun B E a w hS => ?_
        obtain ⟨E2, h1, h2⟩ := nrm_drop 0 B E a w hS
        have := Nrm.mk (P := Tryz.prog) (n := 7) (m := 35) (k := []) (X := jX) (H := HT n (flatD ls) (bytes (ks.getD 0 [])) 8 [(7, grD ks)]) (D := []) (os := obT.zip (oT n (flatD ls) (bytes (ks.getD 0 []))))
          (by intro p hp; simp [obT, oT] at hp; rcases hp with rfl | rfl | rfl | rfl | rfl | rfl | rfl <;> rfl) 7 [] (k2 := []) (os2 := obT.zip (oT n (flatD ls) (bytes (ks.getD 0 [])))) (D2 := []) rfl .nil
          (.cons ⟨rfl, .lp (T38_RV rfl rfl rfl rfl rfl)⟩ (.cons ⟨rfl, .df⟩ (.cons ⟨rfl, .ro (RV.all flatD_c2)⟩ (.cons ⟨rfl, .cells (RV.all bytes_c2)⟩ (.cons ⟨rfl, .cells (.cons (.closed rfl) .nil)⟩ (.cons ⟨rfl, .cells (RV.all bytes_c2)⟩ (.cons ⟨rfl, .cells (.cons (.slice rfl) .nil)⟩ .nil))))))) .nil
        obtain ⟨E3, h3, h4⟩ := this B E2 a w h2
        exact ⟨E3, h1.trans h3, h4⟩
      refine awn_nrm hN ?_
      refine awn_exit ?_
      exact ⟨.inl rfl, rfl, rfl, rfl⟩
    · rw [decide_eq_true (by omega)]
      refine awn_skip ?_
      have hrg := r130g n ks.length 0 ks (flatD ls) (bytes (ks.getD 0 [])) (flatD ks) (.bool true)
      have hsl : SliC ks ks.length 0 (flatD ks) := ⟨hk32, rfl, by rw [flatD_len hk32]; omega, by rw [List.drop_zero, ← flatD_len hk32, List.take_length]⟩
      refine pieceE hm pCall_sound (callO_sound (up132 ks)) hrg ⟨⟨hsl, by omega, hk2⟩, trivial⟩ rfl 8 [(7, 8)] rfl (obsT (i := 8) (j := 7) flatD_c2 bytes_c2 rfl (RO.grD (ds := upS ks))) .nil ?_
      intro T H D hN
      have hul := upS_len ks
      obtain ⟨q', rfl⟩ : ∃ q', q = q' + 1 := ⟨q - 1, by omega⟩
      have htop' : topS q' (upS ks) = topS n (ls.map nodeS) := by
        rw [← htop]
        show topS q' (upS ks) = topS (q' + 1) ks
        rw [topS, if_neg h2]
      exact ⟨(upS ks).length, by omega, _, _, _, hN, upS ks, ks.getD 0 [], q', rfl, by omega, by omega, upS_32 hk32, hl1, by omega, htop', rfl, rfl, rfl⟩
end Go.Abs

namespace Go.Abs
open Go.Proofs
set_option maxRecDepth 1000000

noncomputable def asn38 : Code := match codeOf Tryz.f38 [1,1,1,1,0,1,0] with | .rangeFunc _ _ a _ => a | _ => .skip
noncomputable def bod38 : Code := match codeOf Tryz.f38 [1,1,1,1,0,1,0] with | .rangeFunc _ _ _ b => b | _ => .skip
theorem c38_eq : c38 = .rangeFunc (.tmp 12) #[13] asn38 bod38 := by kernel_rfl
theorem c38_eq' : codeOf Tryz.f38 [1,1,1,1,0,1,0] = .rangeFunc (.tmp 12) #[13] asn38 bod38 := by kernel_rfl

abbrev D38 : Defs := [(77, [pt 1, pt 2])]
theorem r38a (cs : List Value) (n : Nat) : (ex3 Tryz.prog pCall noOO 60 (pre 1 (codeOf Tryz.f38 [])) ⟨⟨[sl 0 n] ++ List.replicate 20 undef, ⟨1, [(0, .ro cs)]⟩, []⟩, True⟩).map (obs3 [0,2,3] [0,1,2])
  = some (⟨0, [sl 0 n, pt 1, pt 2], 21, 3, [.ro cs, .cells zD 26, .cells [i64 0] 43], D38⟩, True) := by kernel_rfl
theorem r38b (n : Nat) (H : Heap) (D : Defs) : (ex3 Tryz.prog pCall noOO 60 (pre 0 (codeOf Tryz.f38 [1,1,0])) ⟨⟨mkT 21 [(0, sl 0 n), (2, pt 1), (3, pt 2)] jX, H, D⟩, True⟩).map (obsQ [0,2,3,9])
  = some (⟨0, [sl 0 n, pt 1, pt 2, .bool (decide ((n : Int) > 4096))], 21, H, D⟩, True) := by kernel_rfl
theorem r38c (n : Nat) (cs : List Value) (b : Value) : (ex3 Tryz.prog pCall noOO 60 (pre 0 (codeOf Tryz.f38 [1,1,1])) ⟨⟨mkT 21 [(0, sl 0 n), (2, pt 1), (3, pt 2), (9, b)] jX, mkH 3 [(0, .ro cs), (1, .cells zD 26), (2, .cells [i64 0] 43)] [], D38⟩, True⟩).map (obs3 [0,2,3,4] [0,1,2,3])
  = some (⟨0, [sl 0 n, pt 1, pt 2, pt 3], 21, 4, [.ro cs, .cells zD 26, .cells [i64 0] 43, .cells zD 26], D38⟩, True) := by kernel_rfl
theorem r38d (n : Nat) (cs : List Value) : (ex3 Tryz.prog pCall (callO Tryz.prog (inC Tryz.prog pCall noOO 60 [78])) 60 (pre 0 (codeOf Tryz.f38 [1,1,1,1,0])) ⟨⟨mkT 21 [(0, sl 0 n), (2, pt 1), (3, pt 2), (4, pt 3)] jX, mkH 4 [(0, .ro cs), (1, .cells zD 26), (2, .cells [i64 0] 43), (3, .cells zD 26)] [], D38⟩, True⟩).map (obsQ [0,2,3,4,12])
  = some (⟨0, [sl 0 n, pt 1, pt 2, pt 3, cl130], 21, ⟨5, [(4, .cells [sl 0 n] 27), (0, .ro cs), (1, .cells zD 26), (2, .cells [i64 0] 43), (3, .cells zD 26)]⟩, D38⟩, True ∧ True) := by kernel_rfl

/-- The last piece of a function with a mark. -/
structure FinM where
  tag : Nat
  res : Option Value
  ok : Bool
  next : Nat
  objs : List AObj
def finM (P : Program) (fn : Func) (os : List Nat) (r : Ex × St3) : FinM × Prop := (⟨r.1.tag, resA P fn r.2.T (killM r.2.D r.2.H), okM P r.2.D r.2.H, (killM r.2.D r.2.H).next, os.map (killM r.2.D r.2.H).get⟩, r.2.L)
theorem pieceM {call : CallF} (hO : ∀ f args H v h, call f args H = some (v, h) → Does Tryz.prog f args H v (h.getD H)) {OO : OpO} (hOO : SoundO Tryz.prog OO) {n m : Nat} {c : Code} {T : List Value} {H : Heap} {D : Defs} {Q : APost} {L : Prop} {fn : Func} {os : List Nat} {ob : FinM}
    (h : (ex3 Tryz.prog call OO m c ⟨⟨T, H, D⟩, True⟩).map (finM Tryz.prog fn os) = some (ob, L)) (hL : L)
    (hQ : ∀ (e : Ex) (T : List Value) (H : Heap) (D : Defs), e.tag = ob.tag → resA Tryz.prog fn T (killM D H) = ob.res → okM Tryz.prog D H = ob.ok → (killM D H).next = ob.next → (∀ p ∈ os.zip ob.objs, (killM D H).get p.1 = p.2) → Q e.to T H D) : Awn Tryz.prog n c Q T H D := by
  cases hr : ex3 Tryz.prog call OO m c ⟨⟨T, H, D⟩, True⟩ with
  | none => rw [hr] at h; cases h
  | some r =>
    rw [hr] at h
    simp only [Option.map_some, Option.some.injEq, finM, Prod.mk.injEq] at h
    obtain ⟨h1, h2⟩ := h
    have := (ex3_sound hm hO hOO m c _ r hr (h2 ▸ hL)).2
    subst h1
    refine awn_of (awp_mono this ?_)
    rintro e T H D ⟨rfl, rfl, rfl, rfl⟩
    exact hQ r.1 r.2.T r.2.H r.2.D rfl rfl rfl rfl (mem_zip_map _ os)

theorem r38e (n : Nat) (cs : List Value) (top x : Nat → Int) : (ex3 Tryz.prog pCall (callO Tryz.prog (oneC 79 (seG (dgf top) n (dgf x)))) 60 (codeOf Tryz.f38 [1,1,1,1,1]) ⟨⟨T38 n, (HT n cs (bytes (dgf top)) 7 []).put 6 .dead, (markF, [.pointer (some ⟨5, 0, none⟩)]) :: D38⟩, True⟩).map (finM Tryz.prog Tryz.f38 [0])
  = some (⟨1, some (.tuple #[dig (dgf x), i64 0]), true, 7, [.ro cs]⟩, SeC (dgf top) (dgf x) (dig (dgf top)) (n : Int) n ∧ True) := by kernel_rfl

theorem rt_c2 {d : List Int} {k : Int} : c2 (.tuple #[dig d, i64 k]) = true := by
  show (#[dig d, i64 k]).all c1 = true
  have h1 : c1 (dig d) = true := dig_c2 d
  simp [h1]
  rfl
theorem does38 {ls : List (List Int)} (h : ∀ d ∈ ls, d.length = 32) (h1 : 1 ≤ ls.length) (hb : ls.length ≤ 63) :
    Does Tryz.prog 38 [sl 0 ls.length] ⟨1, [(0, .ro (flatD ls))]⟩ (.tuple #[dig (rootS ls), i64 0]) ⟨1, [(0, .ro (flatD ls))]⟩ := by
  refine val_of_awpM Tryz.func38 (c := codeOf Tryz.f38 []) rfl rt_c2 (awp_of_awn (n := 1) ?_ (Nat.le_refl _))
  have hd := does130 h h1 (by omega)
  generalize hn : ls.length = n at *
  have hro : ∀ (σ : Nat → Option Nat), RO σ (.ro (flatD ls)) (.ro (flatD ls)) := fun σ => .ro (RV.all flatD_c2)
  have hz : ∀ (σ : Nat → Option Nat), RO σ (.cells zD 26) (.cells zD 26) := fun σ => .cells (RV.all bytes_c2)
  have hi : ∀ (σ : Nat → Option Nat), RO σ (.cells [i64 0] 43) (.cells [i64 0] 43) := fun σ => .cells (.cons (.closed rfl) .nil)
  refine pieceS hm pCall_sound noOO_sound 1 (r38a (flatD ls) n) rfl trivial rfl 3 [(1, 1), (2, 2)] (os2 := [(0, .ro (flatD ls)), (1, .cells zD 26), (2, .cells [i64 0] 43)]) (D2 := D38) rfl
    (.cons ⟨rfl, hro _⟩ (.cons ⟨rfl, hz _⟩ (.cons ⟨rfl, hi _⟩ .nil))) (.cons ⟨rfl, .cons (.ptr rfl) (.cons (.ptr rfl) .nil)⟩ .nil) ?_
  refine awn_seq (x := codeOf Tryz.f38 [1,1,0]) (y := codeOf Tryz.f38 [1,1,1]) ?_
  refine pieceT hm pCall_sound noOO_sound 0 (r38b n _ _) rfl trivial rfl ?_
  refine awn_cond (c := .tmp 9) (b := decide ((n : Int) > 4096)) rfl rfl ?_
  rw [decide_eq_false (by omega)]
  refine awn_skip ?_
  refine pieceS hm pCall_sound noOO_sound 0 (r38c n (flatD ls) _) rfl trivial rfl 4 [(1, 1), (2, 2), (3, 3)] (os2 := [(0, .ro (flatD ls)), (1, .cells zD 26), (2, .cells [i64 0] 43), (3, .cells zD 26)]) (D2 := D38) rfl
    (.cons ⟨rfl, hro _⟩ (.cons ⟨rfl, hz _⟩ (.cons ⟨rfl, hi _⟩ (.cons ⟨rfl, hz _⟩ .nil)))) (.cons ⟨rfl, .cons (.ptr rfl) (.cons (.ptr rfl) .nil)⟩ .nil) ?_
  refine awn_seq (x := codeOf Tryz.f38 [1,1,1,1,0]) (y := codeOf Tryz.f38 [1,1,1,1,1]) ?_
  refine pieceT hm pCall_sound (callO_sound (inC_sound hm pCall_sound noOO_sound)) 0 (r38d n (flatD ls)) rfl ⟨trivial, trivial⟩ rfl ?_
  refine awn_block (c := codeOf Tryz.f38 [1,1,1,1,0,1,0]) ?_
  rw [c38_eq']
  rw [show (HT n (flatD ls) zD 7 []) = mkH 7 ([(6, .lp (T38 n) c38 false), (5, .df), (0, .ro (flatD ls)), (1, .cells zD 26), (2, .cells [i64 0] 43), (3, .cells zD 26), (4, .cells [sl 0 n] 27)] ++ []) [] from rfl] at hd
  have hget : ∀ x, (HT n (flatD ls) zD 7 []).get x = (((⟨5, [(4, .cells [sl 0 n] 27), (0, .ro (flatD ls)), (1, .cells zD 26), (2, .cells [i64 0] 43), (3, .cells zD 26)]⟩ : Heap).push .df).push (.lp (T38 n) c38 false)).get x := by
    intro x
    simp only [HT, mkH, Heap.push, Heap.get, List.append_nil, List.cons_append, List.nil_append, look_cons]
    repeat' split
    all_goals first | rfl | omega
  have hd2 := Does.ext (H0 := ((⟨5, [(4, .cells [sl 0 n] 27), (0, .ro (flatD ls)), (1, .cells zD 26), (2, .cells [i64 0] 43), (3, .cells zD 26)]⟩ : Heap).push .df).push (.lp (T38 n) c38 false)) hd (Nat.le_refl _) hget
  rw [c38_eq] at hd2
  refine awn_rangeFunc (gf := 130) (caps := #[pt 4]) rfl rfl (by kernel_rfl) hd2 (by rw [HT, c38_eq]; rfl) ?_
  have hn32 : ∀ d ∈ ls.map nodeS, d.length = 32 := fun d hd => by obtain ⟨x, _, rfl⟩ := List.mem_map.1 hd; exact nodeS_len _
  have htl := topS_len n hn32
  have hxl : (rootS ls).length = 32 := sumS_len _ _
  have hr := r38e n (flatD ls) (fn (topS n (ls.map nodeS))) (fn (rootS ls))
  rw [show dgf (fn (topS n (ls.map nodeS))) = topS n (ls.map nodeS) from dgf_of htl, show dgf (fn (rootS ls)) = rootS ls from dgf_of hxl] at hr
  have so := se79 (topS n (ls.map nodeS)) n (rootS ls)
  refine pieceM pCall_sound (callO_sound so) hr ⟨⟨htl, rfl, rfl, hb, by rw [rootS, hn]⟩, trivial⟩ ?_
  intro e T H D he hres hok hnx hg
  cases tag1 he
  refine ⟨.inr rfl, hok, _, hres, rfl, ⟨by rw [hnx]; show 1 ≤ 7; omega, fun id hid => ?_⟩⟩
  have : id = 0 := by
    have : id < 1 := hid
    omega
  subst this
  exact hg (0, _) (.head _)
end Go.Abs

namespace Go.Abs
open Go.Proofs
set_option maxRecDepth 1000000

theorem r39a (cs : List Value) (n : Nat) : (ex3 Tryz.prog pCall noOO 60 (pre 0 (codeOf Tryz.f39 [])) ⟨⟨[sl 0 n] ++ List.replicate 39 undef, ⟨1, [(0, .ro cs)]⟩, []⟩, True⟩).map (obs3 [0,2,3] [0,1])
  = some (⟨0, [sl 0 n, pt 1, i64 0], 40, 2, [.ro cs, .cells zD 26], []⟩, True) := by kernel_rfl
theorem r39b (n : Nat) (H : Heap) : (ex3 Tryz.prog pCall noOO 60 (pre 0 (codeOf Tryz.f39 [1,0])) ⟨⟨mkT 40 [(0, sl 0 n), (2, pt 1), (3, i64 0)] jX, H, []⟩, True⟩).map (obsQ [0,2,3,9])
  = some (⟨0, [sl 0 n, pt 1, i64 0, .bool (decide ((n : Int) > 4096))], 40, H, []⟩, True) := by kernel_rfl
theorem r39c (n : Nat) (b : Value) (H : Heap) : (ex3 Tryz.prog pCall noOO 60 (pre 0 (codeOf Tryz.f39 [1,1])) ⟨⟨mkT 40 [(0, sl 0 n), (2, pt 1), (3, i64 0), (9, b)] jX, H, []⟩, True⟩).map (obsQ [0,2,3,4])
  = some (⟨0, [sl 0 n, pt 1, i64 0, nilS], 40, H, []⟩, True) := by kernel_rfl
theorem r39d (n : Nat) (v : Value) (H : Heap) : (ex3 Tryz.prog pCall noOO 60 (pre 0 (codeOf Tryz.f39 [1,1,1,0])) ⟨⟨mkT 40 [(0, sl 0 n), (2, pt 1), (3, i64 0), (4, v)] jX, H, []⟩, True⟩).map (obsQ [0,2,3,4,5])
  = some (⟨0, [sl 0 n, pt 1, i64 0, v, i64 ((0 : Nat) : Int)], 40, H, []⟩, True) := by kernel_rfl
theorem r39e (n : Nat) (v : Value) (i : Int) (H : Heap) : (ex3 Tryz.prog pCall noOO 60 (pre 0 (codeOf Tryz.f39 [1,1,1,0,1,0,0,0])) ⟨⟨mkT 40 [(0, sl 0 n), (2, pt 1), (3, i64 0), (4, v), (5, i64 i)] jX, H, []⟩, True⟩).map (obsQ [0,2,3,4,5,14])
  = some (⟨0, [sl 0 n, pt 1, i64 0, v, i64 i, .bool (decide (i < (n : Int)))], 40, H, []⟩, True) := by kernel_rfl
noncomputable def oo39 (f g : Nat → Int) : OpO := orO (idxO Tryz.prog 20) (orO (ldO Tryz.prog 21 (dig (dgf f))) (orO (callO Tryz.prog (oneC 80 (nd1 (dgf f) (dgf g)))) (appO Tryz.prog 24)))
theorem oo39_sound (f g : Nat → Int) : SoundO Tryz.prog (oo39 f g) := orO_sound idxO_sound (orO_sound ldO_sound (orO_sound (callO_sound (nd80 _ _)) appO_sound))
theorem r39f (f g : Nat → Int) (cs : List Value) (n : Nat) (i : Int) (b : Value) : (ex3 Tryz.prog pCall (oo39 f g) 60 (codeOf Tryz.f39 [1,1,1,0,1,0,0,1]) ⟨⟨mkT 40 [(0, sl 0 n), (2, pt 1), (3, i64 0), (4, nilS), (5, i64 i), (14, b)] jX, mkH 2 [(0, .ro cs), (1, .cells zD 26)] [], []⟩, True⟩).map (obs3 [0,2,3,4,5] [0,1,3])
  = some (⟨0, [sl 0 n, pt 1, i64 0, sl 3 1, i64 (IntKind.i64.wrap (i + 1))], 40, 4, [.ro cs, .cells zD 26, .grow (bytes (dgf g)) 26], []⟩,
    ((dgf f).length = 32 ∧ dig (dgf f) = dig (dgf f) ∧ dgf g = nodeS (dgf f)) ∧ LdC Tryz.prog 26 (some cs) (0 + i.toNat * 32) (dig (dgf f)) ∧ ((0 : Int) ≤ i ∧ i < (n : Int)) ∧ True) := by kernel_rfl
theorem r39g (f g : Nat → Int) (cs ds : List Value) (n j : Nat) (i : Int) (b : Value) : (ex3 Tryz.prog pCall (oo39 f g) 60 (codeOf Tryz.f39 [1,1,1,0,1,0,0,1]) ⟨⟨mkT 40 [(0, sl 0 n), (2, pt 1), (3, i64 0), (4, sl 2 j), (5, i64 i), (14, b)] jX, mkH 3 [(0, .ro cs), (1, .cells zD 26), (2, .grow ds 26)] [], []⟩, True⟩).map (obs3 [0,2,3,4,5] [0,1,4])
  = some (⟨0, [sl 0 n, pt 1, i64 0, sl 4 (j + 1), i64 (IntKind.i64.wrap (i + 1))], 40, 5, [.ro cs, .cells zD 26, .grow (ds.take (j * (31 + 1)) ++ bytes (dgf g)) 26], []⟩,
    AppC 32 31 32 26 26 0 capG j 1 0 ds (bytes (dgf g)) ∧ ((dgf f).length = 32 ∧ dig (dgf f) = dig (dgf f) ∧ dgf g = nodeS (dgf f)) ∧ LdC Tryz.prog 26 (some cs) (0 + i.toNat * 32) (dig (dgf f)) ∧ ((0 : Int) ≤ i ∧ i < (n : Int)) ∧ True) := by kernel_rfl
theorem r39h (cs ds : List Value) (n j : Nat) : (ex3 Tryz.prog pCall noOO 60 (pre 0 (codeOf Tryz.f39 [1,1,1,1])) ⟨⟨mkT 40 [(0, sl 0 n), (2, pt 1), (3, i64 0), (4, sl 2 j)] jX, mkH 3 [(0, .ro cs), (1, .cells zD 26), (2, .grow ds 26)] [], []⟩, True⟩).map (obs3 [0,2,3,4,6] [0,1,2,3])
  = some (⟨0, [sl 0 n, pt 1, i64 0, sl 2 j, pt 3], 40, 4, [.ro cs, .cells zD 26, .grow ds 26, .cells zD 26], []⟩, True) := by kernel_rfl
abbrev T39 (n k : Nat) : List Value := mkT 40 [(0, sl 0 n), (2, pt 1), (3, i64 0), (4, sl 2 k), (6, pt 3)] jX
abbrev H39 (cs ds : List Value) : Heap := mkH 4 [(0, .ro cs), (1, .cells zD 26), (2, .grow ds 26), (3, .cells zD 26)] []
theorem r39i (n k : Nat) (H : Heap) : (ex3 Tryz.prog pCall noOO 60 (pre 0 (codeOf Tryz.f39 [1,1,1,1,1,0,0,0,0])) ⟨⟨T39 n k, H, []⟩, True⟩).map (obsQ [0,2,3,4,6,27])
  = some (⟨0, [sl 0 n, pt 1, i64 0, sl 2 k, pt 3, .bool (decide ((k : Int) > 1))], 40, H, []⟩, True) := by kernel_rfl
theorem r39j (n k : Nat) (ks : List (List Int)) (cs ds : List Value) (b : Value) : (ex3 Tryz.prog pCall (callO Tryz.prog (oneC 81 (upG ks))) 60 (codeOf Tryz.f39 [1,1,1,1,1,0,0,0,1]) ⟨⟨mkT 40 [(0, sl 0 n), (2, pt 1), (3, i64 0), (4, sl 2 k), (6, pt 3), (27, b)] jX, H39 cs ds, []⟩, True⟩).map (obs3 [0,2,3,4,6] [0,1,4,3])
  = some (⟨0, [sl 0 n, pt 1, i64 0, sl 4 (upS ks).length, pt 3], 40, 5, [.ro cs, .cells zD 26, grD (upS ks), .cells zD 26], []⟩, (SliC ks k 0 ds ∧ 2 ≤ k ∧ k ≤ 1000) ∧ True) := by kernel_rfl
theorem r39k (n k : Nat) (b : Value) (H : Heap) : (ex3 Tryz.prog pCall noOO 60 (pre 0 (codeOf Tryz.f39 [1,1,1,1,1,1,0])) ⟨⟨mkT 40 [(0, sl 0 n), (2, pt 1), (3, i64 0), (4, sl 2 k), (6, pt 3), (27, b)] jX, H, []⟩, True⟩).map (obsQ [0,2,3,4,6,32])
  = some (⟨0, [sl 0 n, pt 1, i64 0, sl 2 k, pt 3, .bool ((k : Int) == 1)], 40, H, []⟩, True) := by kernel_rfl
theorem r39l (f : Nat → Int) (n k : Nat) (cs ds : List Value) (b : Value) : (ex3 Tryz.prog pCall (orO (idxO Tryz.prog 34) (ldO Tryz.prog 35 (dig (dgf f)))) 60 (codeOf Tryz.f39 [1,1,1,1,1,1,0,1,0]) ⟨⟨mkT 40 [(0, sl 0 n), (2, pt 1), (3, i64 0), (4, sl 2 k), (6, pt 3), (32, b)] jX, H39 cs ds, []⟩, True⟩).map (obs3 [0,2,3,4,6] [0,1,2,3])
  = some (⟨0, [sl 0 n, pt 1, i64 0, sl 2 k, pt 3], 40, 4, [.ro cs, .cells zD 26, .grow ds 26, .cells (bytes (dgf f)) 26], []⟩, LdC Tryz.prog 26 (some ds) 0 (dig (dgf f)) ∧ ((0 : Int) ≤ 0 ∧ (0 : Int) < (k : Int)) ∧ True) := by kernel_rfl
theorem r39m (top x : Nat → Int) (n k : Nat) (cs ds : List Value) : (ex3 Tryz.prog pCall (callO Tryz.prog (oneC 82 (seG (dgf top) n (dgf x)))) 60 (codeOf Tryz.f39 [1,1,1,1,1,1,1]) ⟨⟨T39 n k, mkH 4 [(0, .ro cs), (1, .cells zD 26), (2, .grow ds 26), (3, .cells (bytes (dgf top)) 26)] [], []⟩, True⟩).map (fin3 Tryz.prog Tryz.f39 [0])
  = some (⟨1, some (.tuple #[dig (dgf x), i64 0]), 4, [.ro cs], []⟩, SeC (dgf top) (dgf x) (dig (dgf top)) (n : Int) n ∧ True) := by kernel_rfl

abbrev T39a (n : Nat) (v : Value) (i : Nat) : List Value := mkT 40 [(0, sl 0 n), (2, pt 1), (3, i64 0), (4, v), (5, i64 (i : Int))] jX
theorem does39 {ls : List (List Int)} (h : ∀ d ∈ ls, d.length = 32) (h1 : 1 ≤ ls.length) (hb : ls.length ≤ 63) :
    Does Tryz.prog 39 [sl 0 ls.length] ⟨1, [(0, .ro (flatD ls))]⟩ (.tuple #[dig (rootS ls), i64 0]) ⟨1, [(0, .ro (flatD ls))]⟩ := by
  refine val_of_awp Tryz.func39 (c := codeOf Tryz.f39 []) rfl rt_c2 (awp_of_awn (n := 1) ?_ (Nat.le_refl _))
  generalize hn : ls.length = n at *
  have hro : ∀ (σ : Nat → Option Nat), RO σ (.ro (flatD ls)) (.ro (flatD ls)) := fun σ => .ro (RV.all flatD_c2)
  have hz : ∀ (σ : Nat → Option Nat), RO σ (.cells zD 26) (.cells zD 26) := fun σ => .cells (RV.all bytes_c2)
  refine pieceS hm pCall_sound noOO_sound 0 (r39a (flatD ls) n) rfl trivial rfl 2 [(1, 1)] (os2 := [(0, .ro (flatD ls)), (1, .cells zD 26)]) rfl (.cons ⟨rfl, hro _⟩ (.cons ⟨rfl, hz _⟩ .nil)) .nil ?_
  refine awn_seq (x := codeOf Tryz.f39 [1,0]) (y := codeOf Tryz.f39 [1,1]) ?_
  refine pieceT hm pCall_sound noOO_sound 0 (r39b n _) rfl trivial rfl ?_
  refine awn_cond (c := .tmp 9) (b := decide ((n : Int) > 4096)) rfl rfl ?_
  rw [decide_eq_false (by omega)]
  refine awn_skip ?_
  refine pieceT hm pCall_sound noOO_sound 0 (r39c n _ _) rfl trivial rfl ?_
  refine awn_seq (x := codeOf Tryz.f39 [1,1,1,0]) (y := codeOf Tryz.f39 [1,1,1,1]) ?_
  refine pieceT hm pCall_sound noOO_sound 0 (r39d n _ _) rfl trivial rfl ?_
  have hn32 : ∀ d ∈ ls.map nodeS, d.length = 32 := fun d hd => by obtain ⟨x, _, rfl⟩ := List.mem_map.1 hd; exact nodeS_len _
  have hln : (ls.map nodeS).length = n := by simpa using hn
  refine awn_block (c := codeOf Tryz.f39 [1,1,1,0,1,0]) (awn_loop (c := codeOf Tryz.f39 [1,1,1,0,1,0,0])
    (fun k T H D => ∃ i, i + k = n ∧ ((i = 0 ∧ T = T39a n nilS i ∧ H = mkH 2 [(0, .ro (flatD ls)), (1, .cells zD 26)] []) ∨ (1 ≤ i ∧ T = T39a n (sl 2 i) i ∧ H = mkH 3 [(0, .ro (flatD ls)), (1, .cells zD 26), (2, grD ((ls.map nodeS).take i))] [])) ∧ D = [])
    n ⟨_, _, _, .refl _ _ _ _ _, 0, by omega, .inl ⟨rfl, rfl, rfl⟩, rfl⟩ ?_)
  rintro k T H D ⟨i, hk, hcase, rfl⟩
  have hw := wrap_i1 (i := i) (by omega)
  have hat : ∀ d, ls[i]? = some d → (ls.map nodeS)[i]? = some (nodeS d) := fun d hd => by rw [List.getElem?_map, hd]; rfl
  rcases hcase with ⟨rfl, rfl, rfl⟩ | ⟨hj, rfl, rfl⟩
  · refine awn_seq (x := codeOf Tryz.f39 [1,1,1,0,1,0,0,0]) (y := codeOf Tryz.f39 [1,1,1,0,1,0,0,1]) ?_
    refine pieceT hm pCall_sound noOO_sound 0 (r39e n _ _ _) rfl trivial rfl ?_
    refine awn_cond (c := .tmp 14) (b := decide (((0 : Nat) : Int) < (n : Int))) rfl rfl ?_
    cases k with
    | zero => omega
    | succ k =>
      rw [decide_eq_true (by omega)]
      refine awn_skip ?_
      obtain ⟨hl1, hl2⟩ := getD_32 h (i := 0) (by omega)
      generalize ls.getD 0 [] = d at hl1 hl2
      have hr := r39f (fn d) (fn (nodeS d)) (flatD ls) n ((0 : Nat) : Int) (.bool true)
      rw [show dgf (fn d) = d from dgf_of hl1, show dgf (fn (nodeS d)) = nodeS d from dgf_of (nodeS_len d), hw] at hr
      refine pieceE hm pCall_sound (oo39_sound _ _) hr ⟨⟨hl1, rfl, rfl⟩, flatD_at h hl2, ⟨by omega, by omega⟩, trivial⟩ rfl 3 [(1, 1), (2, 3)] (os2 := [(0, .ro (flatD ls)), (1, .cells zD 26), (2, grD ((ls.map nodeS).take (0 + 1)))]) rfl (.cons ⟨rfl, hro _⟩ (.cons ⟨rfl, hz _⟩ (.cons ⟨rfl, ?_⟩ .nil))) .nil ?_
      · rw [take_snoc (hat d hl2)]
        have : bytes (nodeS d) = flatD ([] ++ [nodeS d]) := by simp [flatD]
        rw [this]
        exact RO.grD
      intro T H D hN
      exact ⟨k, by omega, _, _, _, hN, 0 + 1, by omega, .inr ⟨by omega, rfl, rfl⟩, rfl⟩
  · refine awn_seq (x := codeOf Tryz.f39 [1,1,1,0,1,0,0,0]) (y := codeOf Tryz.f39 [1,1,1,0,1,0,0,1]) ?_
    refine pieceT hm pCall_sound noOO_sound 0 (r39e n _ _ _) rfl trivial rfl ?_
    refine awn_cond (c := .tmp 14) (b := decide ((i : Int) < (n : Int))) rfl rfl ?_
    have htl : ((ls.map nodeS).take i).length = i := by rw [List.length_take]; omega
    have ht32 := take_32 hn32 i
    cases k with
    | succ k =>
      rw [decide_eq_true (by omega)]
      refine awn_skip ?_
      obtain ⟨hl1, hl2⟩ := getD_32 h (i := i) (by omega)
      generalize ls.getD i [] = d at hl1 hl2
      have hr := r39g (fn d) (fn (nodeS d)) (flatD ls) (flatD ((ls.map nodeS).take i)) n i (i : Int) (.bool true)
      have htk := take_flatD ht32 (nodeS d)
      rw [htl, ← take_snoc (hat d hl2)] at htk
      rw [show dgf (fn d) = d from dgf_of hl1, show dgf (fn (nodeS d)) = nodeS d from dgf_of (nodeS_len d), hw, htk] at hr
      have hap := appD' (nodeS_len d) ht32 (by omega)
      rw [htl] at hap
      refine pieceE hm pCall_sound (oo39_sound _ _) hr ⟨hap, ⟨hl1, rfl, rfl⟩, flatD_at h hl2, ⟨by omega, by omega⟩, trivial⟩ rfl 3 [(1, 1), (2, 4)] (os2 := [(0, .ro (flatD ls)), (1, .cells zD 26), (2, grD ((ls.map nodeS).take (i + 1)))]) rfl (.cons ⟨rfl, hro _⟩ (.cons ⟨rfl, hz _⟩ (.cons ⟨rfl, RO.grD⟩ .nil))) .nil ?_
      intro T H D hN
      exact ⟨k, by omega, _, _, _, hN, i + 1, by omega, .inr ⟨by omega, rfl, rfl⟩, rfl⟩
    | zero =>
      rw [decide_eq_false (by omega)]
      refine awn_exit ?_
      have e0 : (ls.map nodeS).take i = ls.map nodeS := List.take_of_length_le (by omega)
      have hin : i = n := by omega
      subst hin
      refine awn_nrm (nrm_drop 4) ?_
      rw [e0]
      refine pieceS hm pCall_sound noOO_sound 0 (r39h (flatD ls) (flatD (ls.map nodeS)) i i) rfl trivial rfl 4 [(1, 1), (2, 2), (3, 3)] (os2 := [(0, .ro (flatD ls)), (1, .cells zD 26), (2, grD (ls.map nodeS)), (3, .cells zD 26)]) rfl (.cons ⟨rfl, hro _⟩ (.cons ⟨rfl, hz _⟩ (.cons ⟨rfl, RO.grD⟩ (.cons ⟨rfl, hz _⟩ .nil)))) .nil ?_
      refine awn_seq (x := codeOf Tryz.f39 [1,1,1,1,1,0]) (y := codeOf Tryz.f39 [1,1,1,1,1,1]) ?_
      refine awn_block (c := codeOf Tryz.f39 [1,1,1,1,1,0,0]) (awn_loop (c := codeOf Tryz.f39 [1,1,1,1,1,0,0,0])
        (fun m T H D => ∃ (ks : List (List Int)) (q : Nat), ks.length = m ∧ 1 ≤ ks.length ∧ ks.length ≤ 1000 ∧ (∀ d ∈ ks, d.length = 32) ∧ ks.length ≤ q + 1 ∧ topS q ks = topS i (ls.map nodeS) ∧ T = T39 i ks.length ∧ H = H39 (flatD ls) (flatD ks) ∧ D = [])
        i ⟨_, _, _, .refl _ _ _ _ _, ls.map nodeS, i, hln, by omega, by omega, hn32, by omega, rfl, by rw [hln]; rfl, rfl, rfl⟩ ?_)
      rintro m T H D ⟨ks, q, hm', hk1, hk2, hk32, hq, htop, rfl, rfl, rfl⟩
      refine awn_seq (x := codeOf Tryz.f39 [1,1,1,1,1,0,0,0,0]) (y := codeOf Tryz.f39 [1,1,1,1,1,0,0,0,1]) ?_
      refine pieceT hm pCall_sound noOO_sound 0 (r39i i _ _) rfl trivial rfl ?_
      refine awn_cond (c := .tmp 27) (b := decide ((ks.length : Int) > 1)) rfl rfl ?_
      by_cases h2 : ks.length ≤ 1
      · rw [decide_eq_false (by omega)]
        refine awn_exit ?_
        have hk : ks.length = 1 := by omega
        refine awn_seq (x := codeOf Tryz.f39 [1,1,1,1,1,1,0]) (y := codeOf Tryz.f39 [1,1,1,1,1,1,1]) ?_
        refine pieceT hm pCall_sound noOO_sound 0 (r39k i ks.length _ _) rfl trivial rfl ?_
        refine awn_cond (c := .tmp 32) (b := ((ks.length : Int) == 1)) rfl rfl ?_
        rw [show ((ks.length : Int) == 1) = true by simp [hk]]
        obtain ⟨hl1, hl2⟩ := getD_32 hk32 (i := 0) (by omega)
        have ht : topS i (ls.map nodeS) = ks.getD 0 [] := by
          rw [← htop, topS_one h2]
          cases ks with
          | nil => simp at hk1
          | cons a l => rfl
        have hld := flatD_at hk32 hl2
        rw [show 0 + 0 * 32 = 0 from rfl] at hld
        have hr := r39l (fn (ks.getD 0 [])) i ks.length (flatD ls) (flatD ks) (.bool true)
        rw [show dgf (fn (ks.getD 0 [])) = ks.getD 0 [] from dgf_of hl1] at hr
        have so : SoundO Tryz.prog (orO (idxO Tryz.prog 34) (ldO Tryz.prog 35 (dig (ks.getD 0 [])))) := orO_sound idxO_sound ldO_sound
        refine pieceE hm pCall_sound so hr ⟨hld, ⟨by omega, by omega⟩, trivial⟩ rfl 4 [(1, 1), (2, 2), (3, 3)] (os2 := [(0, .ro (flatD ls)), (1, .cells zD 26), (2, grD ks), (3, .cells (bytes (ks.getD 0 [])) 26)]) rfl (.cons ⟨rfl, hro _⟩ (.cons ⟨rfl, hz _⟩ (.cons ⟨rfl, RO.grD⟩ (.cons ⟨rfl, .cells (RV.all bytes_c2)⟩ .nil)))) .nil ?_
        intro T H D hN
        refine awn_nrm hN ?_
        have hxl : (rootS ls).length = 32 := sumS_len _ _
        have hrm := r39m (fn (ks.getD 0 [])) (fn (rootS ls)) i ks.length (flatD ls) (flatD ks)
        rw [show dgf (fn (ks.getD 0 [])) = ks.getD 0 [] from dgf_of hl1, show dgf (fn (rootS ls)) = rootS ls from dgf_of hxl] at hrm
        refine pieceF hm pCall_sound (callO_sound (se82 (ks.getD 0 []) i (rootS ls))) hrm ⟨⟨hl1, rfl, rfl, hb, by rw [rootS, hn, ht]⟩, trivial⟩ ?_
        intro e T H he hr hn hg
        cases tag1 he
        exact ⟨.inr rfl, rfl, _, hr, rfl, keep1 (by rw [hn]; show 1 ≤ 4; omega) (hg (0, _) (.head _))⟩
      · rw [decide_eq_true (by omega)]
        refine awn_skip ?_
        have hrg := r39j i ks.length ks (flatD ls) (flatD ks) (.bool true)
        have hsl : SliC ks ks.length 0 (flatD ks) := ⟨hk32, rfl, by rw [flatD_len hk32]; omega, by rw [List.drop_zero, ← flatD_len hk32, List.take_length]⟩
        refine pieceE hm pCall_sound (callO_sound (up81 ks)) hrg ⟨⟨hsl, by omega, hk2⟩, trivial⟩ rfl 4 [(1, 1), (2, 4), (3, 3)] (os2 := [(0, .ro (flatD ls)), (1, .cells zD 26), (2, grD (upS ks)), (3, .cells zD 26)]) rfl (.cons ⟨rfl, hro _⟩ (.cons ⟨rfl, hz _⟩ (.cons ⟨rfl, RO.grD⟩ (.cons ⟨rfl, hz _⟩ .nil)))) .nil ?_
        intro T H D hN
        have hul := upS_len ks
        obtain ⟨q', rfl⟩ : ∃ q', q = q' + 1 := ⟨q - 1, by omega⟩
        have htop' : topS q' (upS ks) = topS i (ls.map nodeS) := by
          rw [← htop]
          show topS q' (upS ks) = topS (q' + 1) ks
          rw [topS, if_neg h2]
        exact ⟨(upS ks).length, by omega, _, _, _, hN, upS ks, q', rfl, by omega, by omega, upS_32 hk32, by omega, htop', rfl, rfl, rfl⟩

/-- Roots by contract. -/
def rtG (ls : List (List Int)) (x : List Int) : List Value → Heap → Option CallR := fun args H => match args with
  | [.slice (some ⟨id, off, none⟩) n _] => (match H.row id with
    | some cs => some (.same (.tuple #[dig x, i64 0]) (SliC ls n off cs ∧ 1 ≤ n ∧ n ≤ 63 ∧ x = rootS ls))
    | none => none)
  | _ => none
theorem rtG_key (ls : List (List Int)) (x : List Int) {k : FuncId} (hk : (∀ d ∈ ls, d.length = 32) → 1 ≤ ls.length → ls.length ≤ 63 → Does Tryz.prog k [sl 0 ls.length] ⟨1, [(0, .ro (flatD ls))]⟩ (.tuple #[dig (rootS ls), i64 0]) ⟨1, [(0, .ro (flatD ls))]⟩) :
    SoundC Tryz.prog (oneC k (rtG ls x)) := oneC_sound fun args H r h => by
  unfold rtG at h
  split at h
  case h_2 => cases h
  rename_i id off n c
  split at h
  case h_2 => cases h
  rename_i cs hr
  cases h
  rintro ⟨⟨g1, rfl, g3, g4⟩, g5, g6, rfl⟩
  exact frame_val (hk g1 g5 g6) rt_c2 (imp_slice (P := Tryz.prog) (H := H) (id := id) (off := off) (c := c) (n := ls.length) (m := ls.length * 32) (pre := []) (post := []) rfl rfl hr g4 g3 flatD_c2)
theorem rt38 (ls : List (List Int)) (x : List Int) : SoundC Tryz.prog (oneC 38 (rtG ls x)) := rtG_key ls x fun h h1 h2 => does38 h h1 h2
theorem rt39 (ls : List (List Int)) (x : List Int) : SoundC Tryz.prog (oneC 39 (rtG ls x)) := rtG_key ls x fun h h1 h2 => does39 h h1 h2
end Go.Abs

