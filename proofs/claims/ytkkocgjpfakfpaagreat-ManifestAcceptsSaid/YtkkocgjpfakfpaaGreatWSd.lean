/- For every manifest, seed and index the statements ManifestSigns and ManifestAccepts of law 40 hold, with no condition. -/
import Derived.Test.YtkkocgjpfakfpaaGreatWSc
set_option linter.unusedSimpArgs false
set_option linter.unusedVariables false
namespace Go.Abs
open Go.Proofs
set_option maxRecDepth 1000000

/-- The parts by contract. -/
structure L88S (cs : List Value) (s : List Int) (i : Nat) (way : List (List Int)) (bs : List Int) (ps : List (List Int)) (args : List Value) (H : Heap) : Prop where
  ha : args = [i64 35, cS]
  hH : H = mkH 9 (o47c cs (bytes s) (i : Int) way (digV bs)) []
  hc : ∀ v ∈ cs, c2 v = true
  hs : s.length = 32
  hi : i ≤ 63
  he : ps = partS s i bs
def g88S (cs : List Value) (s : List Int) (i : Nat) (way : List (List Int)) (bs : List Int) (ps : List (List Int)) : List Value → Heap → Option CallR := fun args H => match args with
  | [.int .i64 _, .func (.func 89) _ _] => some (.eff (sl H.next 35) (H.push (grD ps)) (L88S cs s i way bs ps args H))
  | _ => none
theorem l88S (cs : List Value) (s : List Int) (i : Nat) (way : List (List Int)) (bs : List Int) (ps : List (List Int)) : SoundC Tryz.prog (oneC 88 (g88S cs s i way bs ps)) := oneC_sound fun args H r h => by
  unfold g88S at h
  split at h
  case h_2 => cases h
  cases h
  rintro ⟨h1, rfl, h3, h4, h5, rfl⟩
  rw [h1]
  exact does88S h3 h4 h5
/-- A signature and no error. -/
def sgV (i : Int) (p w : Value) : Value := .tuple #[.agg #[i64 i, p, i64 i, i64 4, w], i64 0]
theorem sgV_RV {σ : Nat → Option Nat} {i : Int} {p w p2 w2 : Value} (hp : RV σ p p2) (hw : RV σ w w2) : RV σ (sgV i p w) (sgV i p2 w2) :=
  .tuples (l := [.agg #[i64 i, p, i64 i, i64 4, w], i64 0]) (m := [.agg #[i64 i, p2, i64 i, i64 4, w2], i64 0]) (.cons (.aggs (l := [i64 i, p, i64 i, i64 4, w]) (m := [i64 i, p2, i64 i, i64 4, w2]) (.cons (.closed rfl) (.cons hp (.cons (.closed rfl) (.cons (.closed rfl) (.cons hw .nil)))))) (.cons (.closed rfl) .nil))
theorem r47d (cs : List Value) (s : Nat → Int) (i : Nat) (way : List (List Int)) (bs : List Int) (ps : List (List Int)) : (ex3 Tryz.prog pCall (callO Tryz.prog (oneC 88 (g88S cs (dgf s) i way bs ps))) 60 (codeOf Tryz.f47 [1,1,1,1,1,1]) ⟨⟨mkT 38 [(3, pt 1), (4, pt 2), (6, pt 3), (7, pt 4), (8, pt 6), (9, pt 8)] jX, mkH 9 (o47c cs (bytes (dgf s)) (i : Int) way (digV bs)) [], D47⟩, True⟩).map (fin3 Tryz.prog Tryz.f47 [0,5,9])
  = some (⟨1, some (sgV (i : Int) (sl 9 35) (sl 5 way.length)), 10, [.ro cs, grD way, grD ps], D47⟩, L88S cs (dgf s) i way bs ps [i64 35, cS] (mkH 9 (o47c cs (bytes (dgf s)) (i : Int) way (digV bs)) []) ∧ True) := by kernel_rfl
theorem does47 {s bs : List Int} (hs : s.length = 32) (hb : bs.length ≤ 1000000) {i : Nat} (hi : i < 4) :
    Does Tryz.prog 47 [dig s, i64 (i : Int), sl 0 bs.length] ⟨1, [(0, .ro (bytes bs))]⟩ (sgV (i : Int) (sl 1 35) (sl 2 (wayS i (leavesS s)).length)) (pushAll ⟨1, [(0, .ro (bytes bs))]⟩ [grD (partS s i bs), grD (wayS i (leavesS s))]) := by
  refine news_of_awp Tryz.func47 (c := codeOf Tryz.f47 []) rfl (H := ⟨1, [(0, .ro (bytes bs))]⟩) (fun ob hob => by
    simp only [List.mem_cons, List.not_mem_nil, or_false] at hob
    rcases hob with rfl | rfl <;> exact .gr) (awp_of_awn (n := 1) ?_ (Nat.le_refl _))
  have hfs : dgf (fn s) = s := dgf_of hs
  generalize hw : wayS i (leavesS s) = way
  have hra := r47a (bytes bs) (fn s) bs.length (i : Int)
  have hrb := r47b (bytes bs) (fn s) i bs.length (leavesS s) way
  have hrc := r47c (bytes bs) (fn s) i bs.length way bs (digV bs)
  have hrd := r47d (bytes bs) (fn s) i way bs (partS s i bs)
  rw [hfs] at hra hrb hrc hrd
  have hz31 : ∀ σ : Nat → Option Nat, RO σ z31 z31 := fun σ => .cells (.cons (.closed rfl) (.cons (.closed rfl) (.cons (.closed rfl) (.cons (.closed rfl) (.cons (.closed rfl) .nil)))))
  have h1 : ∀ (σ : Nat → Option Nat) (z : Value) (e : TypeId), c2 z = true → RO σ (.cells [z] e) (.cells [z] e) := fun σ z e hz => .cells (.cons (.closed hz) .nil)
  have hD : ∀ σ : List (Nat × Nat), sg 1 σ 3 = some 3 → sg 1 σ 4 = some 4 → F2 (fun (d d2 : FuncId × List Value) => d.1 = d2.1 ∧ F2 (RV (sg 1 σ)) d.2 d2.2) D47 D47 := fun σ h3 h4 => .cons ⟨rfl, .cons (.ptr h3) (.cons (.ptr h4) .nil)⟩ .nil
  have so : SoundO Tryz.prog o47a := orO_sound forceO_sound forceO_sound
  refine pieceSX pCall_sound so 2 hra rfl ⟨by rw [decide_eq_false (by omega)], by rw [decide_eq_false (by omega)], trivial⟩ rfl 5 [(1, 1), (2, 2), (3, 3), (4, 4)] (k2 := k47 bs.length) (os2 := o47 (bytes bs) (bytes s) (i : Int)) (D2 := D47) rfl
    (.cons ⟨rfl, .slice rfl⟩ (.cons ⟨rfl, .ptr rfl⟩ (.cons ⟨rfl, .ptr rfl⟩ (.cons ⟨rfl, .ptr rfl⟩ (.cons ⟨rfl, .ptr rfl⟩ .nil)))))
    (.cons ⟨rfl, .ro (RV.all bytes_c2)⟩ (.cons ⟨rfl, .cells (RV.all bytes_c2)⟩ (.cons ⟨rfl, h1 _ _ _ rfl⟩ (.cons ⟨rfl, hz31 _⟩ (.cons ⟨rfl, h1 _ _ _ rfl⟩ .nil))))) (hD _ rfl rfl) ?_
  have hse := sliC_self (ls := leavesS s) leavesS_32
  rw [leavesS_len] at hse
  refine pieceDX hm (F47_sound _ _ _ _) pCall_sound hrb ⟨rfl, rfl, trivial, rfl, rfl, trivial, rfl, trivial, rfl, ⟨hse, by omega, by omega, rfl, hi, hw.symm⟩, rfl, trivial, rfl, ⟨hs, rfl, rfl⟩, rfl, trivial, rfl, trivial⟩ 7 [(1, 1), (2, 2), (3, 3), (4, 4), (5, 6), (6, 7)] (k2 := k47 bs.length ++ [(8, pt 6)]) (os2 := o47b (bytes bs) (bytes s) (i : Int) way) (D2 := D47) rfl
    (.cons ⟨rfl, .slice rfl⟩ (.cons ⟨rfl, .ptr rfl⟩ (.cons ⟨rfl, .ptr rfl⟩ (.cons ⟨rfl, .ptr rfl⟩ (.cons ⟨rfl, .ptr rfl⟩ (.cons ⟨rfl, .ptr rfl⟩ .nil))))))
    (.cons ⟨rfl, .ro (RV.all bytes_c2)⟩ (.cons ⟨rfl, .cells (RV.all bytes_c2)⟩ (.cons ⟨rfl, h1 _ _ _ rfl⟩ (.cons ⟨rfl, hz31 _⟩ (.cons ⟨rfl, h1 _ _ _ rfl⟩ (.cons ⟨rfl, RO.grD⟩ (.cons ⟨rfl, .cells (.cons (.closed rfl) (.cons (.closed rfl) (.cons (.slice rfl) .nil)))⟩ .nil))))))) (hD _ rfl rfl) ?_
  refine pieceSX pCall_sound (callO_sound (dg87_sound _ _)) 1 hrc rfl ⟨⟨hb, rfl, by rw [List.drop_zero, ← bytes_len bs, List.take_length], by rw [bytes_len]; omega, rfl⟩, trivial⟩ rfl 9 [(1, 1), (2, 2), (3, 3), (4, 4), (5, 5), (6, 6), (7, 7), (8, 8)] (k2 := [(3, pt 1), (4, pt 2), (6, pt 3), (7, pt 4), (8, pt 6), (9, pt 8)]) (os2 := o47c (bytes bs) (bytes s) (i : Int) way (digV bs)) (D2 := D47) rfl
    (.cons ⟨rfl, .ptr rfl⟩ (.cons ⟨rfl, .ptr rfl⟩ (.cons ⟨rfl, .ptr rfl⟩ (.cons ⟨rfl, .ptr rfl⟩ (.cons ⟨rfl, .ptr rfl⟩ (.cons ⟨rfl, .ptr rfl⟩ .nil))))))
    (.cons ⟨rfl, .ro (RV.all bytes_c2)⟩ (.cons ⟨rfl, .cells (RV.all bytes_c2)⟩ (.cons ⟨rfl, h1 _ _ _ rfl⟩ (.cons ⟨rfl, hz31 _⟩ (.cons ⟨rfl, h1 _ _ _ rfl⟩ (.cons ⟨rfl, RO.grD⟩ (.cons ⟨rfl, .cells (.cons (.closed rfl) (.cons (.closed rfl) (.cons (.slice rfl) .nil)))⟩ (.cons ⟨rfl, .cells (RV.all digV_c2)⟩ (.cons ⟨rfl, .cells (.cons (.slice rfl) .nil)⟩ .nil))))))))) (hD _ rfl rfl) ?_
  refine pieceF hm pCall_sound (callO_sound (l88S _ _ _ _ _ _)) hrd ⟨⟨rfl, rfl, bytes_c2, hs, by omega, rfl⟩, trivial⟩ ?_
  intro e T H he hr hn hg
  cases tag1 he
  have g0 := hg (0, _) (.head _)
  have g5 := hg (5, _) (.tail _ (.head _))
  have g9 := hg (9, _) (.tail _ (.tail _ (.head _)))
  refine ⟨.inr rfl, rfl, _, hr, ⟨[9, 5], by simp, fun id hid => ?_, ?_, fun σ hσ => ?_⟩, keep1 (by rw [hn]; show 1 ≤ 10; omega) g0⟩
  · simp only [List.mem_cons, List.not_mem_nil, or_false] at hid
    show 1 ≤ id
    omega
  · show [H.get 9, H.get 5] = _
    rw [g9, g5]
  · exact sgV_RV (.slice (hσ 0 9 rfl)) (.slice (hσ 1 5 rfl))

/-- Signatures in each heap. -/
def SgC (s : List Int) (i : Nat) (bs : List Int) (ps way : List (List Int)) (v : Value) (z : Int) (n off : Nat) (cs : List Value) : Prop :=
  s.length = 32 ∧ v = dig s ∧ z = (i : Int) ∧ i < 4 ∧ bs.length ≤ 1000000 ∧ n = bs.length ∧ (cs.drop off).take n = bytes bs ∧ off + n ≤ cs.length ∧ ps = partS s i bs ∧ way = wayS i (leavesS s)
theorem sg_key {k : FuncId} (hk : ∀ {s bs : List Int} {i : Nat}, s.length = 32 → bs.length ≤ 1000000 → i < 4 → Does Tryz.prog k [dig s, i64 (i : Int), sl 0 bs.length] ⟨1, [(0, .ro (bytes bs))]⟩ (sgV (i : Int) (sl 1 35) (sl 2 (wayS i (leavesS s)).length)) (pushAll ⟨1, [(0, .ro (bytes bs))]⟩ [grD (partS s i bs), grD (wayS i (leavesS s))]))
    {s : List Int} {i : Nat} {bs : List Int} {ps way : List (List Int)} {v : Value} {z : Int} {id n off c : Nat} {cs : List Value} {H : Heap} (hr : H.row id = some cs) (h : SgC s i bs ps way v z n off cs) :
    Does Tryz.prog k [v, i64 z, .slice (some ⟨id, off, none⟩) n c] H (sgV z (sl H.next 35) (sl (H.next + 1) way.length)) (pushAll H [grD ps, grD way]) := by
  obtain ⟨h1, rfl, rfl, h4, h5, rfl, h7, h8, rfl, rfl⟩ := h
  refine frame_news (hk h1 h5 h4) (fun ob hob => by
    simp only [List.mem_cons, List.not_mem_nil, or_false] at hob
    rcases hob with rfl | rfl <;> exact .gr) (imp_slice (P := Tryz.prog) (H := H) (id := id) (off := off) (c := c) (n := bs.length) (m := bs.length) (pre := [dig s, i64 (i : Int)]) (post := []) (by show (c2 (dig s) && (true && true)) = true; rw [dig_c2]; rfl) rfl hr h7 h8 bytes_c2) fun σ hσ => ?_
  exact sgV_RV (.slice (hσ 0 (by simp))) (.slice (hσ 1 (by simp)))
def fsG (s : List Int) (i : Nat) (bs : List Int) (ps way : List (List Int)) : List Value → Heap → Nat → Option (Value × List AObj × Prop) := fun args H id' => match args with
  | [v, .int .i64 z, .slice (some ⟨id, off, none⟩) n _] => (match H.row id with
    | some cs => some (sgV z (sl id' 35) (sl (id' + 1) way.length), [grD ps, grD way], SgC s i bs ps way v z n off cs)
    | none => none)
  | _ => none
theorem fs_key {k : FuncId} (hk : ∀ {s bs : List Int} {i : Nat}, s.length = 32 → bs.length ≤ 1000000 → i < 4 → Does Tryz.prog k [dig s, i64 (i : Int), sl 0 bs.length] ⟨1, [(0, .ro (bytes bs))]⟩ (sgV (i : Int) (sl 1 35) (sl 2 (wayS i (leavesS s)).length)) (pushAll ⟨1, [(0, .ro (bytes bs))]⟩ [grD (partS s i bs), grD (wayS i (leavesS s))]))
    (s : List Int) (i : Nat) (bs : List Int) (ps way : List (List Int)) : SoundF Tryz.prog (fcO Tryz.prog k (fsG s i bs ps way)) := fcO_sound fun args H id v obs c h hc => by
  unfold fsG at h
  split at h
  case h_2 => cases h
  rename_i v' z id' off n cp
  split at h
  case h_2 => cases h
  rename_i cs hr
  cases h
  refine ⟨fun ob hob => by
    simp only [List.mem_cons, List.not_mem_nil, or_false] at hob
    rcases hob with rfl | rfl <;> exact .gr, fun H2 hs => ?_⟩
  have hrow : (roH H2).row id' = some cs := by rw [roH_row]; exact row_mono hs hr
  exact ⟨_, sg_key hk hrow hc, fun σ hσ => sgV_RV (.slice (hσ 0 (by simp))) (.slice (hσ 1 (by simp)))⟩
theorem fs47 (s : List Int) (i : Nat) (bs : List Int) (ps way : List (List Int)) : SoundF Tryz.prog (fcO Tryz.prog 47 (fsG s i bs ps way)) := fs_key (fun h1 h2 h3 => does47 h1 h2 h3) s i bs ps way
end Go.Abs

namespace Go.Abs
open Go.Proofs
set_option maxRecDepth 1000000

noncomputable def o51a (bs : List Int) (ds : List Value) : OpO := orO (forceO Tryz.prog 12 (.bool false)) (orO (forceO Tryz.prog 15 (.bool false)) (callO Tryz.prog (oneC 92 (dg92 bs ds))))
theorem o51a_sound (bs : List Int) (ds : List Value) : SoundO Tryz.prog (o51a bs ds) := orO_sound forceO_sound (orO_sound forceO_sound (callO_sound (dg92_sound _ _)))
abbrev sgO (i : Int) (p : Value) : AObj := .cells [i64 i, p, i64 0, i64 0, nilS] 31
theorem r51a (cs : List Value) (s : Nat → Int) (n : Nat) (z : Int) (bs : List Int) (ds : List Value) : (ex3 Tryz.prog pCall (o51a bs ds) 60 (pre 3 (codeOf Tryz.f51 [])) ⟨⟨[dig (dgf s), i64 z, sl 0 n] ++ List.replicate 46 undef, ⟨1, [(0, .ro cs)]⟩, []⟩, True⟩).map (obs3 [1,3,6,7,8,9] [0,1,2,3,4])
  = some (⟨0, [i64 z, pt 1, pt 2, i64 0, pt 3, sl 4 35], 49, 5, [.ro cs, .cells (bytes (dgf s)) 26, z31, sgO z nilS, .grow ds 3], []⟩, DgC bs ds n 0 cs ∧ some (Value.bool (decide (z ≥ 4))) = some (Value.bool false) ∧ some (Value.bool (decide (z < 0))) = some (Value.bool false) ∧ True) := by kernel_rfl
abbrev k51 (i : Nat) : List (Nat × Value) := [(1, i64 (i : Int)), (3, pt 1), (6, pt 2), (7, i64 0), (8, pt 3), (9, sl 4 35)]
abbrev T51 (i j : Nat) : List Value := mkT 49 (k51 i ++ [(10, i64 (j : Int))]) jX
abbrev T51b (i j : Nat) (b : Value) : List Value := mkT 49 (k51 i ++ [(10, i64 (j : Int)), (23, b)]) jX
abbrev o51 (cs s : List Value) (i : Int) (p : Value) (ds : List Value) (o : AObj) : List (Nat × AObj) := [(0, .ro cs), (1, .cells s 26), (2, z31), (3, sgO i p), (4, .grow ds 3), (5, o)]
abbrev H51 (cs s : List Value) (i : Int) (p : Value) (ds : List Value) (o : AObj) : Heap := mkH 6 (o51 cs s i p ds o) []
theorem r51b (i : Nat) (H : Heap) : (ex3 Tryz.prog pCall noOO 60 (pre 0 (codeOf Tryz.f51 [1,1,1,1,0])) ⟨⟨mkT 49 (k51 i) jX, H, []⟩, True⟩).map (obsQ [1,3,6,7,8,9,10])
  = some (⟨0, [i64 (i : Int), pt 1, pt 2, i64 0, pt 3, sl 4 35, i64 ((0 : Nat) : Int)], 49, H, []⟩, True) := by kernel_rfl
theorem r51c (i j : Nat) (H : Heap) : (ex3 Tryz.prog pCall noOO 60 (pre 0 (codeOf Tryz.f51 [1,1,1,1,0,1,0,0,0])) ⟨⟨T51 i j, H, []⟩, True⟩).map (obsQ [1,3,6,7,8,9,10,23])
  = some (⟨0, [i64 (i : Int), pt 1, pt 2, i64 0, pt 3, sl 4 35, i64 (j : Int), .bool (decide ((j : Int) < 35))], 49, H, []⟩, True) := by kernel_rfl
noncomputable def oo51 (s x y : Nat → Int) (i j d : Nat) : OpO := orO (callO Tryz.prog (oneC 94 (bgG (dgf s) i j (dgf x)))) (orO (callO Tryz.prog (oneC 93 (lkG (dgf x) d (dgf y)))) (orO (idxO Tryz.prog 34) (orO (ldO Tryz.prog 35 (i64 (d : Int))) (appO Tryz.prog 38))))
theorem oo51_sound (s x y : Nat → Int) (i j d : Nat) : SoundO Tryz.prog (oo51 s x y i j d) := orO_sound (callO_sound (bg94 _ _ _ _)) (orO_sound (callO_sound (lk93 _ _ _)) (orO_sound idxO_sound (orO_sound ldO_sound appO_sound)))
abbrev C51 (s x y : Nat → Int) (i j d : Nat) (p : Value) (ds : List Value) : Prop := some p = some p ∧ LkC (dgf x) d (dgf y) (dig (dgf x)) (d : Int) ∧ LdC Tryz.prog 3 (some ds) (0 + j * 1) (i64 (d : Int)) ∧ ((0 : Int) ≤ (j : Int) ∧ (j : Int) < 35) ∧ BgC (dgf s) i j (dgf x) (dig (dgf s)) (i : Int) (j : Int) ∧ True
theorem r51g (cs ds : List Value) (s x y : Nat → Int) (i j d : Nat) (b : Value) : (ex3 Tryz.prog pCall (oo51 s x y i j d) 60 (codeOf Tryz.f51 [1,1,1,1,0,1,0,0,1]) ⟨⟨T51b i j b, H51 cs (bytes (dgf s)) (i : Int) nilS ds .dead, []⟩, True⟩).map (obs3 [1,3,6,7,8,9,10] [0,1,2,3,4,7])
  = some (⟨0, [i64 (i : Int), pt 1, pt 2, i64 0, pt 3, sl 4 35, cw j], 49, 8, [.ro cs, .cells (bytes (dgf s)) 26, z31, sgO (i : Int) (sl 7 1), .grow ds 3, .grow (bytes (dgf y)) 26], []⟩, C51 s x y i j d nilS ds) := by kernel_rfl
theorem r51h (cs ds es : List Value) (s x y : Nat → Int) (i j d k : Nat) (b : Value) : (ex3 Tryz.prog pCall (oo51 s x y i j d) 60 (codeOf Tryz.f51 [1,1,1,1,0,1,0,0,1]) ⟨⟨T51b i j b, H51 cs (bytes (dgf s)) (i : Int) (sl 5 k) ds (.grow es 26), []⟩, True⟩).map (obs3 [1,3,6,7,8,9,10] [0,1,2,3,4,7])
  = some (⟨0, [i64 (i : Int), pt 1, pt 2, i64 0, pt 3, sl 4 35, cw j], 49, 8, [.ro cs, .cells (bytes (dgf s)) 26, z31, sgO (i : Int) (sl 7 (k + 1)), .grow ds 3, .grow (es.take (k * (31 + 1)) ++ bytes (dgf y)) 26], []⟩, AppC 32 31 32 26 26 0 capG k 1 0 es (bytes (dgf y)) ∧ C51 s x y i j d (sl 5 k) ds) := by kernel_rfl
noncomputable def oo51e (s : List Int) (lv : List (List Int)) (i : Nat) (way : List (List Int)) : OpO := orO (callO Tryz.prog (oneC 52 (ksG s lv))) (callO Tryz.prog (oneC 42 (prG lv i way)))
theorem r51e (cs ds : List Value) (ps : List (List Int)) (s : Nat → Int) (i j : Nat) (lv way : List (List Int)) (b : Value) : (ex3 Tryz.prog pCall (oo51e (dgf s) lv i way) 60 (codeOf Tryz.f51 [1,1,1,1,1]) ⟨⟨T51b i j b, H51 cs (bytes (dgf s)) (i : Int) (sl 5 35) ds (grD ps), []⟩, True⟩).map (fin3 Tryz.prog Tryz.f51 [0,5,7])
  = some (⟨1, some (sgV (i : Int) (sl 5 35) (sl 7 way.length)), 8, [.ro cs, grD ps, grD way], []⟩, (SliC lv 4 0 (flatD lv) ∧ 2 ≤ 4 ∧ 4 ≤ 63 ∧ (i : Int) = (i : Int) ∧ i < 4 ∧ way = wayS i lv) ∧ ((dgf s).length = 32 ∧ dig (dgf s) = dig (dgf s) ∧ lv = leavesS (dgf s)) ∧ True) := by kernel_rfl
theorem ob51 {cs ds : List Value} {s : List Int} {i : Nat} {p p2 : Value} {σ : List (Nat × Nat)} {a : Nat} {o o2 : AObj} (hc : ∀ v ∈ cs, c2 v = true) (hd : ∀ v ∈ ds, c2 v = true) (h : ∀ j, j < 5 → sg 1 σ j = some j) (h5 : sg 1 σ 5 = some a) (hp : RV (sg 1 σ) p p2) (ho : RO (sg 1 σ) o o2) :
    F2 (fun (p q : Nat × AObj) => sg 1 σ q.1 = some p.1 ∧ RO (sg 1 σ) p.2 q.2) (([0,1,2,3,4,a] : List Nat).zip [.ro cs, .cells (bytes s) 26, z31, sgO (i : Int) p, .grow ds 3, o]) (o51 cs (bytes s) (i : Int) p2 ds o2) :=
  .cons ⟨h 0 (by omega), .ro (RV.all hc)⟩ (.cons ⟨h 1 (by omega), .cells (RV.all bytes_c2)⟩ (.cons ⟨h 2 (by omega), .cells (.cons (.closed rfl) (.cons (.closed rfl) (.cons (.closed rfl) (.cons (.closed rfl) (.cons (.closed rfl) .nil)))))⟩ (.cons ⟨h 3 (by omega), .cells (.cons (.closed rfl) (.cons hp (.cons (.closed rfl) (.cons (.closed rfl) (.cons (.closed rfl) .nil)))))⟩ (.cons ⟨h 4 (by omega), .grow (RV.all hd)⟩ (.cons ⟨h5, ho⟩ .nil)))))
theorem does51 {s bs : List Int} (hs : s.length = 32) (hb : bs.length ≤ 1000000) {i : Nat} (hi : i < 4) :
    Does Tryz.prog 51 [dig s, i64 (i : Int), sl 0 bs.length] ⟨1, [(0, .ro (bytes bs))]⟩ (sgV (i : Int) (sl 1 35) (sl 2 (wayS i (leavesS s)).length)) (pushAll ⟨1, [(0, .ro (bytes bs))]⟩ [grD (partS s i bs), grD (wayS i (leavesS s))]) := by
  refine news_of_awp Tryz.func51 (c := codeOf Tryz.f51 []) rfl (H := ⟨1, [(0, .ro (bytes bs))]⟩) (fun ob hob => by
    simp only [List.mem_cons, List.not_mem_nil, or_false] at hob
    rcases hob with rfl | rfl <;> exact .gr) (awp_of_awn (n := 1) ?_ (Nat.le_refl _))
  have hfs : dgf (fn s) = s := dgf_of hs
  generalize hw : wayS i (leavesS s) = way
  have hra := r51a (bytes bs) (fn s) bs.length (i : Int) bs (digV bs)
  rw [hfs] at hra
  have hz31 : ∀ σ : Nat → Option Nat, RO σ z31 z31 := fun σ => .cells (.cons (.closed rfl) (.cons (.closed rfl) (.cons (.closed rfl) (.cons (.closed rfl) (.cons (.closed rfl) .nil)))))
  refine pieceSX pCall_sound (o51a_sound _ _) 3 hra rfl ⟨⟨hb, rfl, by rw [List.drop_zero, ← bytes_len bs, List.take_length], by rw [bytes_len]; omega, rfl⟩, by rw [decide_eq_false (by omega)], by rw [decide_eq_false (by omega)], trivial⟩ rfl 6 [(1, 1), (2, 2), (3, 3), (4, 4)] (k2 := k51 i) (os2 := [(0, .ro (bytes bs)), (1, .cells (bytes s) 26), (2, z31), (3, sgO (i : Int) nilS), (4, .grow (digV bs) 3)]) (D2 := []) rfl
    (.cons ⟨rfl, .closed rfl⟩ (.cons ⟨rfl, .ptr rfl⟩ (.cons ⟨rfl, .ptr rfl⟩ (.cons ⟨rfl, .closed rfl⟩ (.cons ⟨rfl, .ptr rfl⟩ (.cons ⟨rfl, .slice rfl⟩ .nil))))))
    (.cons ⟨rfl, .ro (RV.all bytes_c2)⟩ (.cons ⟨rfl, .cells (RV.all bytes_c2)⟩ (.cons ⟨rfl, hz31 _⟩ (.cons ⟨rfl, .cells (.cons (.closed rfl) (.cons (.closed rfl) (.cons (.closed rfl) (.cons (.closed rfl) (.cons (.closed rfl) .nil)))))⟩ (.cons ⟨rfl, .grow (RV.all digV_c2)⟩ .nil))))) .nil ?_
  refine awn_seq (x := codeOf Tryz.f51 [1,1,1,1,0]) (y := codeOf Tryz.f51 [1,1,1,1,1]) ?_
  refine pieceT hm pCall_sound noOO_sound 0 (r51b i _) rfl trivial rfl ?_
  have h5 : ∀ (σ : List (Nat × Nat)), σ = [(1, 1), (2, 2), (3, 3), (4, 4), (5, 7)] → ∀ j, j < 5 → sg 1 σ j = some j := fun σ hσ j hj => by
    subst hσ
    have : j = 0 ∨ j = 1 ∨ j = 2 ∨ j = 3 ∨ j = 4 := by omega
    rcases this with rfl | rfl | rfl | rfl | rfl <;> rfl
  have hN0 : Nrm Tryz.prog 1 (mkT 49 (k51 i ++ [(10, i64 ((0 : Nat) : Int))]) jX) (mkH 6 [(0, .ro (bytes bs)), (1, .cells (bytes s) 26), (2, z31), (3, sgO (i : Int) nilS), (4, .grow (digV bs) 3)] []) [] (T51 i 0) (H51 (bytes bs) (bytes s) (i : Int) nilS (digV bs) .dead) [] :=
    Nrm.ext (Nat.le_refl _) fun x => by
      simp only [H51, o51, mkH, Heap.get, List.append_nil, look_cons]
      repeat' split
      all_goals rfl
  refine awn_block (c := codeOf Tryz.f51 [1,1,1,1,0,1,0]) (awn_loop (c := codeOf Tryz.f51 [1,1,1,1,0,1,0,0])
    (fun q T H D => ∃ j, j + q = 35 ∧ T = T51 i j ∧ H = H51 (bytes bs) (bytes s) (i : Int) (rowV 5 ((partS s i bs).take j)) (digV bs) (rowO ((partS s i bs).take j)) ∧ D = [])
    35 ⟨_, _, _, hN0, 0, by omega, rfl, rfl, rfl⟩ ?_)
  rintro q T H D ⟨j, hq, rfl, rfl, rfl⟩
  refine awn_seq (x := codeOf Tryz.f51 [1,1,1,1,0,1,0,0,0]) (y := codeOf Tryz.f51 [1,1,1,1,0,1,0,0,1]) ?_
  refine pieceT hm pCall_sound noOO_sound 0 (r51c i j _) rfl trivial rfl ?_
  refine awn_cond (c := .tmp 23) (b := decide ((j : Int) < 35)) rfl rfl ?_
  have hel := partS_len s i bs
  cases q with
  | zero =>
    rw [decide_eq_false (by omega)]
    refine awn_exit ?_
    have hj : j = 35 := by omega
    subst hj
    have e : (partS s i bs).take 35 = partS s i bs := List.take_of_length_le (by omega)
    have hne : partS s i bs ≠ [] := fun h => by rw [h] at hel; cases hel
    rw [e, rowV_cons hne, rowO_cons hne, hel]
    have hse := sliC_self (ls := leavesS s) leavesS_32
    rw [leavesS_len] at hse
    have hre := r51e (bytes bs) (digV bs) (partS s i bs) (fn s) i 35 (leavesS s) way (.bool false)
    rw [hfs] at hre
    have so : SoundO Tryz.prog (oo51e s (leavesS s) i way) := orO_sound (callO_sound (ks52 _ _)) (callO_sound (pr42 _ _ _))
    refine pieceF hm pCall_sound so hre ⟨⟨hse, by omega, by omega, rfl, hi, hw.symm⟩, ⟨hs, rfl, rfl⟩, trivial⟩ ?_
    intro e T H he hr hn hg
    cases tag1 he
    have g0 := hg (0, _) (.head _)
    have g5 := hg (5, _) (.tail _ (.head _))
    have g7 := hg (7, _) (.tail _ (.tail _ (.head _)))
    refine ⟨.inr rfl, rfl, _, hr, ⟨[5, 7], by simp, fun id hid => ?_, ?_, fun σ hσ => ?_⟩, keep1 (by rw [hn]; show 1 ≤ 8; omega) g0⟩
    · simp only [List.mem_cons, List.not_mem_nil, or_false] at hid
      show 1 ≤ id
      omega
    · show [H.get 5, H.get 7] = _
      rw [g5, g7]
    · exact sgV_RV (.slice (hσ 0 5 rfl)) (.slice (hσ 1 7 rfl))
  | succ q =>
    rw [decide_eq_true (by omega)]
    refine awn_skip ?_
    have hx := begS_len s i j
    obtain ⟨hd1, hd2⟩ := digS_at bs (c := j) (by omega)
    have hat := partS_at (s := s) (i := i) (bs := bs) (c := j) (by omega)
    generalize (digS bs).getD j 0 = d at *
    have hy := lnkS_len d hx
    have ht := take_snoc hat
    have ht32 := take_32 (partS_32 (s := s) (i := i) (bs := bs)) j
    have hw' := wrap_i1 (i := j) (by omega)
    have hC : ∀ p, C51 (fn s) (fn (begS s i j)) (fn (lnkS d (begS s i j))) i j d p (digV bs) := fun p => by
      refine ⟨rfl, ?_, ldC_one (by rw [Nat.mul_one, Nat.zero_add]; exact hd1), ⟨by omega, by omega⟩, ?_, trivial⟩
      · rw [show dgf (fn (begS s i j)) = begS s i j from dgf_of hx, show dgf (fn (lnkS d (begS s i j))) = lnkS d (begS s i j) from dgf_of hy]
        exact ⟨hx, rfl, rfl, by omega, rfl⟩
      · rw [show dgf (fn (begS s i j)) = begS s i j from dgf_of hx, hfs]
        exact ⟨hs, rfl, rfl, rfl, by omega, by omega, rfl⟩
    have hfy : dgf (fn (lnkS d (begS s i j))) = lnkS d (begS s i j) := dgf_of hy
    generalize hE : (partS s i bs).take j = es at *
    have hdl : es.length = j := by rw [← hE, List.length_take]; omega
    have hk : F2 (fun (p q : Nat × Value) => p.1 = q.1 ∧ RV (sg 1 [(1, 1), (2, 2), (3, 3), (4, 4), (5, 7)]) p.2 q.2) (([1,3,6,7,8,9,10] : List Nat).zip [i64 (i : Int), pt 1, pt 2, i64 0, pt 3, sl 4 35, i64 ((j + 1 : Nat) : Int)]) (k51 i ++ [(10, i64 ((j + 1 : Nat) : Int))]) :=
      .cons ⟨rfl, .closed rfl⟩ (.cons ⟨rfl, .ptr rfl⟩ (.cons ⟨rfl, .ptr rfl⟩ (.cons ⟨rfl, .closed rfl⟩ (.cons ⟨rfl, .ptr rfl⟩ (.cons ⟨rfl, .slice rfl⟩ (.cons ⟨rfl, .closed rfl⟩ .nil))))))
    have fin : ∀ T H D, Nrm Tryz.prog 1 T H D (T51 i (j + 1)) (H51 (bytes bs) (bytes s) (i : Int) (sl 5 (j + 1)) (digV bs) (grD (es ++ [lnkS d (begS s i j)]))) [] → ∃ m, m < q + 1 ∧ ∃ T2 H2 D2, Nrm Tryz.prog 1 T H D T2 H2 D2 ∧ ∃ j, j + m = 35 ∧ T2 = T51 i j ∧ H2 = H51 (bytes bs) (bytes s) (i : Int) (rowV 5 ((partS s i bs).take j)) (digV bs) (rowO ((partS s i bs).take j)) ∧ D2 = [] := by
      intro T H D hN
      refine ⟨q, by omega, _, _, _, hN, j + 1, by omega, rfl, ?_, rfl⟩
      rw [ht, rowV_cons (b := 5) (ds := es ++ [lnkS d (begS s i j)]) (by simp), List.length_append, hdl, rowO_cons (ds := es ++ [lnkS d (begS s i j)]) (by simp)]
      rfl
    cases es with
    | nil =>
      have hj0 : j = 0 := by simpa using hdl.symm
      subst hj0
      have hr := r51g (bytes bs) (digV bs) (fn s) (fn (begS s i 0)) (fn (lnkS d (begS s i 0))) i 0 d (.bool true)
      rw [hfs, hfy, cw, hw', one_flat (lnkS d (begS s i 0))] at hr
      refine pieceEX pCall_sound (oo51_sound _ _ _ _ _ _) hr (hC _) rfl 6 [(1, 1), (2, 2), (3, 3), (4, 4), (5, 7)] (k2 := k51 i ++ [(10, i64 ((0 + 1 : Nat) : Int))]) (os2 := o51 (bytes bs) (bytes s) (i : Int) (sl 5 1) (digV bs) (grD [lnkS d (begS s i 0)])) (D2 := []) rfl hk
        (ob51 (p := sl 7 1) (p2 := sl 5 1) bytes_c2 digV_c2 (h5 _ rfl) rfl (.slice rfl) (RO.grD (ds := [lnkS d (begS s i 0)]))) .nil ?_
      intro T H D hN
      exact fin T H D hN
    | cons e l =>
      have hr := r51h (bytes bs) (digV bs) (flatD (e :: l)) (fn s) (fn (begS s i j)) (fn (lnkS d (begS s i j))) i j d (e :: l).length (.bool true)
      have hap := appD' hy ht32 (by omega)
      rw [hfs, hfy, cw, hw', take_flatD ht32] at hr
      refine pieceEX pCall_sound (oo51_sound _ _ _ _ _ _) hr ⟨hap, hC _⟩ rfl 6 [(1, 1), (2, 2), (3, 3), (4, 4), (5, 7)] (k2 := k51 i ++ [(10, i64 ((j + 1 : Nat) : Int))]) (os2 := o51 (bytes bs) (bytes s) (i : Int) (sl 5 ((e :: l).length + 1)) (digV bs) (grD (e :: l ++ [lnkS d (begS s i j)]))) (D2 := []) rfl hk
        (ob51 (p := sl 7 ((e :: l).length + 1)) (p2 := sl 5 ((e :: l).length + 1)) bytes_c2 digV_c2 (h5 _ rfl) rfl (.slice rfl) (RO.grD (ds := e :: l ++ [lnkS d (begS s i j)]))) .nil ?_
      intro T H D hN
      rw [hdl] at hN
      exact fin T H D hN
theorem fs51 (s : List Int) (i : Nat) (bs : List Int) (ps way : List (List Int)) : SoundF Tryz.prog (fcO Tryz.prog 51 (fsG s i bs ps way)) := fs_key (fun h1 h2 h3 => does51 h1 h2 h3) s i bs ps way

-- a bad index
def sgZ : Value := .tuple #[.agg #[i64 0, nilS, i64 0, i64 0, nilS], i64 1]
theorem sgZ_c2 : c2 sgZ = true := by kernel_rfl
noncomputable def ooZ (a b : Nat) (x : Bool) : OpO := orO (forceO Tryz.prog a (.bool x)) (forceO Tryz.prog b (.bool true))
theorem ooZ_sound (a b : Nat) (x : Bool) : SoundO Tryz.prog (ooZ a b x) := orO_sound forceO_sound forceO_sound
theorem r47z (cs : List Value) (s : Nat → Int) (n : Nat) (z : Int) : (ex3 Tryz.prog pCall (ooZ 13 16 true) 60 (codeOf Tryz.f47 []) ⟨⟨[dig (dgf s), i64 z, sl 0 n] ++ List.replicate 35 undef, ⟨1, [(0, .ro cs)]⟩, []⟩, True⟩).map (fin3 Tryz.prog Tryz.f47 [0])
  = some (⟨1, some sgZ, 5, [.ro cs], D47⟩, some (Value.bool (decide (z < 0))) = some (Value.bool true) ∧ True) := by kernel_rfl
theorem r47y (cs : List Value) (s : Nat → Int) (n : Nat) (z : Int) : (ex3 Tryz.prog pCall (ooZ 13 16 false) 60 (codeOf Tryz.f47 []) ⟨⟨[dig (dgf s), i64 z, sl 0 n] ++ List.replicate 35 undef, ⟨1, [(0, .ro cs)]⟩, []⟩, True⟩).map (fin3 Tryz.prog Tryz.f47 [0])
  = some (⟨1, some sgZ, 5, [.ro cs], D47⟩, some (Value.bool (decide (z ≥ 4))) = some (Value.bool true) ∧ some (Value.bool (decide (z < 0))) = some (Value.bool false) ∧ True) := by kernel_rfl
theorem r51z (cs : List Value) (s : Nat → Int) (n : Nat) (z : Int) : (ex3 Tryz.prog pCall (ooZ 12 15 true) 60 (codeOf Tryz.f51 []) ⟨⟨[dig (dgf s), i64 z, sl 0 n] ++ List.replicate 46 undef, ⟨1, [(0, .ro cs)]⟩, []⟩, True⟩).map (fin3 Tryz.prog Tryz.f51 [0])
  = some (⟨1, some sgZ, 3, [.ro cs], []⟩, some (Value.bool (decide (z < 0))) = some (Value.bool true) ∧ True) := by kernel_rfl
theorem r51y (cs : List Value) (s : Nat → Int) (n : Nat) (z : Int) : (ex3 Tryz.prog pCall (ooZ 12 15 false) 60 (codeOf Tryz.f51 []) ⟨⟨[dig (dgf s), i64 z, sl 0 n] ++ List.replicate 46 undef, ⟨1, [(0, .ro cs)]⟩, []⟩, True⟩).map (fin3 Tryz.prog Tryz.f51 [0])
  = some (⟨1, some sgZ, 3, [.ro cs], []⟩, some (Value.bool (decide (z ≥ 4))) = some (Value.bool true) ∧ some (Value.bool (decide (z < 0))) = some (Value.bool false) ∧ True) := by kernel_rfl
theorem does47z {s bs : List Int} (hs : s.length = 32) {z : Int} (hz : z < 0 ∨ 4 ≤ z) : Does Tryz.prog 47 [dig s, i64 z, sl 0 bs.length] ⟨1, [(0, .ro (bytes bs))]⟩ sgZ ⟨1, [(0, .ro (bytes bs))]⟩ := by
  refine val_of_awp Tryz.func47 (c := codeOf Tryz.f47 []) rfl sgZ_c2 (awp_of_awn (n := 1) ?_ (Nat.le_refl _))
  have hfs : dgf (fn s) = s := dgf_of hs
  by_cases h0 : z < 0
  · have hr := r47z (bytes bs) (fn s) bs.length z
    rw [hfs] at hr
    refine pieceF hm pCall_sound (ooZ_sound _ _ _) hr ⟨by rw [decide_eq_true h0], trivial⟩ ?_
    intro e T H he hr hn hg
    cases tag1 he
    exact ⟨.inr rfl, rfl, _, hr, rfl, keep1 (by rw [hn]; show 1 ≤ 5; omega) (hg (0, _) (.head _))⟩
  · have hr := r47y (bytes bs) (fn s) bs.length z
    rw [hfs] at hr
    refine pieceF hm pCall_sound (ooZ_sound _ _ _) hr ⟨by rw [decide_eq_true (by omega)], by rw [decide_eq_false h0], trivial⟩ ?_
    intro e T H he hr hn hg
    cases tag1 he
    exact ⟨.inr rfl, rfl, _, hr, rfl, keep1 (by rw [hn]; show 1 ≤ 5; omega) (hg (0, _) (.head _))⟩
theorem does51z {s bs : List Int} (hs : s.length = 32) {z : Int} (hz : z < 0 ∨ 4 ≤ z) : Does Tryz.prog 51 [dig s, i64 z, sl 0 bs.length] ⟨1, [(0, .ro (bytes bs))]⟩ sgZ ⟨1, [(0, .ro (bytes bs))]⟩ := by
  refine val_of_awp Tryz.func51 (c := codeOf Tryz.f51 []) rfl sgZ_c2 (awp_of_awn (n := 1) ?_ (Nat.le_refl _))
  have hfs : dgf (fn s) = s := dgf_of hs
  by_cases h0 : z < 0
  · have hr := r51z (bytes bs) (fn s) bs.length z
    rw [hfs] at hr
    refine pieceF hm pCall_sound (ooZ_sound _ _ _) hr ⟨by rw [decide_eq_true h0], trivial⟩ ?_
    intro e T H he hr hn hg
    cases tag1 he
    exact ⟨.inr rfl, rfl, _, hr, rfl, keep1 (by rw [hn]; show 1 ≤ 3; omega) (hg (0, _) (.head _))⟩
  · have hr := r51y (bytes bs) (fn s) bs.length z
    rw [hfs] at hr
    refine pieceF hm pCall_sound (ooZ_sound _ _ _) hr ⟨by rw [decide_eq_true (by omega)], by rw [decide_eq_false h0], trivial⟩ ?_
    intro e T H he hr hn hg
    cases tag1 he
    exact ⟨.inr rfl, rfl, _, hr, rfl, keep1 (by rw [hn]; show 1 ≤ 3; omega) (hg (0, _) (.head _))⟩
def SzC (s bs : List Int) (v : Value) (z : Int) (n off : Nat) (cs : List Value) : Prop :=
  s.length = 32 ∧ v = dig s ∧ (z < 0 ∨ 4 ≤ z) ∧ n = bs.length ∧ (cs.drop off).take n = bytes bs ∧ off + n ≤ cs.length
def fzG (s bs : List Int) : List Value → Heap → Nat → Option (Value × List AObj × Prop) := fun args H _ => match args with
  | [v, .int .i64 z, .slice (some ⟨id, off, none⟩) n _] => (match H.row id with
    | some cs => some (sgZ, [], SzC s bs v z n off cs)
    | none => none)
  | _ => none
theorem fz_key {k : FuncId} (hk : ∀ {s bs : List Int} {z : Int}, s.length = 32 → (z < 0 ∨ 4 ≤ z) → Does Tryz.prog k [dig s, i64 z, sl 0 bs.length] ⟨1, [(0, .ro (bytes bs))]⟩ sgZ ⟨1, [(0, .ro (bytes bs))]⟩)
    (s bs : List Int) : SoundF Tryz.prog (fcO Tryz.prog k (fzG s bs)) := fcO_sound fun args H id v obs c h hc => by
  unfold fzG at h
  split at h
  case h_2 => cases h
  rename_i v' z id' off n cp
  split at h
  case h_2 => cases h
  rename_i cs hr
  cases h
  refine ⟨fun ob hob => (by cases hob), fun H2 hs => ?_⟩
  have hrow : (roH H2).row id' = some cs := by rw [roH_row]; exact row_mono hs hr
  obtain ⟨h1, rfl, h3, rfl, h5, h6⟩ := hc
  exact ⟨sgZ, frame_val (hk h1 h3) sgZ_c2 (imp_slice (P := Tryz.prog) (H := roH H2) (id := id') (off := off) (c := cp) (n := bs.length) (m := bs.length) (pre := [dig s, i64 z]) (post := []) (by show (c2 (dig s) && (true && true)) = true; rw [dig_c2]; rfl) rfl hrow h5 h6 bytes_c2), fun σ _ => .closed sgZ_c2⟩
theorem fz47 (s bs : List Int) : SoundF Tryz.prog (fcO Tryz.prog 47 (fzG s bs)) := fz_key (fun h1 h2 => does47z h1 h2) s bs
theorem fz51 (s bs : List Int) : SoundF Tryz.prog (fcO Tryz.prog 51 (fzG s bs)) := fz_key (fun h1 h2 => does51z h1 h2) s bs
end Go.Abs

namespace Go.Abs
open Go.Proofs
open Go.RowKit (Below)
set_option maxRecDepth 1000000

/-- A row of closed values, or nothing. -/
def Shd (o : AObj) : Prop := Shut o ∨ o = .dead
theorem HRel.pushDead {P : Program} {B : Nat} {E : Env} {H : Heap} {w : World} (h : HRel P B E H w) : HRel P B E (H.push .dead) w := by
  refine h.ext (Nat.le_succ _) fun x => ?_
  rw [Heap.get_push]
  split
  · rename_i e
    subst e
    exact ((h.obj H.next).some_of h.newId).symm
  · rfl
theorem Does.pushDead {P : Program} {f : FuncId} {args : List Value} {H : Heap} {v : Value} (h : Does P f args H v H) : Does P f args H v (H.push .dead) := by
  intro B E w args' hH hA
  refine (h B E w args' hH hA).mono ?_
  rintro e w' ⟨E', v', h1, h2, h3, h4, h5⟩
  exact ⟨E', v', h1, h2.pushDead, h3, h4, h5⟩
theorem addNewsD {P : Program} {B B0 : Nat} {E' : Env} {H' : Heap} {w' : World} (h2 : HRel P B0 E' H' w') (hB : B ≤ B0) : ∀ (ids : List Nat) (E : Env) (H : Heap), HRel P B E H w' → (∀ id ∈ ids, Shd (H'.get id)) → ids.Nodup →
    (∀ j lj, E j = some lj → (H.get j).mut = true → lj.blk < B0 ∨ ∃ id, id ∉ ids ∧ E' id = some lj ∧ (H'.get id).mut = true) →
    ∃ E2, E.le E2 ∧ HRel P B E2 (pushAll H (ids.map H'.get)) w' ∧ ∀ k id, ids[k]? = some id → Shut (H'.get id) → E2 (H.next + k) = E' id
  | [], E, H, h, _, _, _ => ⟨E, .refl E, h, fun k id hk => by simp at hk⟩
  | id :: ids, E, H, h, hs, hn, hf => by
    have hnd := List.nodup_cons.1 hn
    rcases hs id (List.mem_cons_self ..) with hsh | hdd
    · have ho := h2.obj id
      obtain ⟨l, hl, hblk⟩ := hsh.loc ho
      have hmut := hsh.mut
      have hfr : ∀ j lj, E j = some lj → (H.get j).mut = true → lj.blk ≠ l.blk := by
        intro j lj hj mj e
        rcases hf j lj hj mj with hlt | ⟨id2, hne, h3, h4⟩
        · omega
        · have := h2.inj id2 id lj l h3 hl h4 hmut e
          subst this
          exact hne (List.mem_cons_self ..)
      have hnew := h.addNew (o := H'.get id) (l := l) (hsh.or ho hl (by simp [Env.add]) hB) hfr
      obtain ⟨E2, g1, g2, g3⟩ := addNewsD h2 hB ids (E.add H.next l) (H.push (H'.get id)) hnew (fun x hx => hs x (List.mem_cons_of_mem _ hx)) hnd.2 (by
        intro j lj hj mj
        by_cases e : j = H.next
        · subst e
          simp only [Env.add, if_true, Option.some.injEq] at hj
          subst hj
          exact .inr ⟨id, hnd.1, hl, hmut⟩
        · rw [Heap.get_push, if_neg (fun x => e x.symm)] at mj
          simp only [Env.add, if_neg e] at hj
          rcases hf j lj hj mj with hlt | ⟨id2, hne, h3, h4⟩
          · exact .inl hlt
          · exact .inr ⟨id2, fun hx => hne (List.mem_cons_of_mem _ hx), h3, h4⟩)
      refine ⟨E2, (Env.le_add h.newId).trans g1, g2, fun k x hk hsx => ?_⟩
      cases k with
      | zero =>
        simp only [List.getElem?_cons_zero, Option.some.injEq] at hk
        subst hk
        rw [hl]
        exact g1 _ _ (by simp [Env.add])
      | succ k =>
        have := g3 k x (by simpa using hk) hsx
        rw [← this]
        congr 1
        show H.next + (k + 1) = H.next + 1 + k
        omega
    · obtain ⟨E2, g1, g2, g3⟩ := addNewsD h2 hB ids E (H.push .dead) h.pushDead (fun x hx => hs x (List.mem_cons_of_mem _ hx)) hnd.2 (by
        intro j lj hj mj
        have e : j ≠ H.next := fun e => by have := h.dom _ _ hj; omega
        rw [Heap.get_push, if_neg (fun x => e x.symm)] at mj
        rcases hf j lj hj mj with hlt | ⟨id2, hne, h3, h4⟩
        · exact .inl hlt
        · exact .inr ⟨id2, fun hx => hne (List.mem_cons_of_mem _ hx), h3, h4⟩)
      refine ⟨E2, g1, ?_, fun k x hk hsx => ?_⟩
      · rw [List.map_cons, hdd]; exact g2
      cases k with
      | zero =>
        simp only [List.getElem?_cons_zero, Option.some.injEq] at hk
        subst hk
        rw [hdd] at hsx
        have := hsx.mut
        cases this
      | succ k =>
        have := g3 k x (by simpa using hk) hsx
        rw [← this]
        congr 1
        show H.next + (k + 1) = H.next + 1 + k
        omega

theorem rv_newsD {E' E2 : Env} {b : Nat} {ids : List Nat} {H' : Heap} (h3 : ∀ k id, ids[k]? = some id → Shut (H'.get id) → E2 (b + k) = E' id) {u v v' : Value} (hv : VRel E' u v') (hr : ∀ σ : Nat → Option Nat, (∀ k id, ids[k]? = some id → Shut (H'.get id) → σ (b + k) = some id) → RV σ u v) : VRel E2 v v' := by
  classical
  have h1 := hr (fun j => if b ≤ j then (match ids[j - b]? with
      | some id => if Shut (H'.get id) then some id else none
      | none => none) else none) (fun k id hk hs => by
    show (if b ≤ b + k then (match ids[b + k - b]? with
      | some id => if Shut (H'.get id) then some id else none
      | none => none) else none) = _
    rw [if_pos (by omega), Nat.add_sub_cancel_left, hk]
    simp only
    rw [if_pos hs]) E' v' hv
  refine h1.mono fun j l hj => ?_
  simp only [ren] at hj
  by_cases hb : b ≤ j
  · rw [if_pos hb] at hj
    cases hi : ids[j - b]? with
    | none => rw [hi] at hj; cases hj
    | some id =>
      rw [hi] at hj
      simp only at hj
      by_cases hs : Shut (H'.get id)
      · rw [if_pos hs] at hj
        have := h3 _ _ hi hs
        rw [show b + (j - b) = j by omega] at this
        rw [this]; exact hj
      · rw [if_neg hs] at hj; cases hj
  · rw [if_neg hb] at hj; cases hj

/-- A function's body: several new rows of closed values, some of which may be missing. -/
theorem newsD_of_awp {P : Program} {f : FuncId} {fn : Func} {c : Code} (hf : P.funcs[f]? = some fn) (hb : fn.body = some c) {args : List Value} {H : Heap} {obs : List AObj} {v : Value} (hs : ∀ ob ∈ obs, Shd ob)
    (h : Awp P c (fun ex T' H' D' => (ex = .normal ∨ ex = .ret) ∧ (D'.all fun d => quietDefer P d.1 && callable P d.1) = true ∧ ∃ u, resA P fn T' H' = some u ∧ (∃ ids : List Nat, ids.Nodup ∧ (∀ id ∈ ids, H.next ≤ id) ∧ ids.map H'.get = obs ∧ ∀ σ : Nat → Option Nat, (∀ k id, ids[k]? = some id → Shut (H'.get id) → σ (H.next + k) = some id) → RV σ u v) ∧ Keep H H') (args ++ List.replicate (fn.ntmps - args.length) undef) H []) :
    Does P f args H v (pushAll H obs) := by
  intro B E w args' hH hA
  refine (awp_weak (R := fun u H' => (∃ ids : List Nat, ids.Nodup ∧ (∀ id ∈ ids, H.next ≤ id) ∧ ids.map H'.get = obs ∧ ∀ σ : Nat → Option Nat, (∀ k id, ids[k]? = some id → Shut (H'.get id) → σ (H.next + k) = some id) → RV σ u v) ∧ Keep H H') hf hb h B E w args' hH hA).mono ?_
  rintro en w' ⟨E', u, v', H', ⟨⟨ids, hn, hlo, hob, hr⟩, hk⟩, h1, h2, h3, h4, h5⟩
  have hback := hH.back h1 h2 hk
  obtain ⟨E2, g1, g2, g3⟩ := addNewsD h2 (Nat.le_refl B) ids E H hback (fun id hid => hs _ (by rw [← hob]; exact List.mem_map_of_mem hid)) hn (fun j lj hj mj => .inr ⟨j, fun hm => by
    have := hlo j hm
    have := hH.dom _ _ hj
    omega, h1 _ _ hj, by rw [hk.get j (hH.dom _ _ hj)]; exact mj⟩)
  rw [hob] at g2
  exact ⟨E2, v', g1, g2, rv_newsD g3 h3 hr, h4, h5⟩

abbrev anE : Value := .slice (some ⟨0, 0, some 1⟩) 0 0
def clA (a : Option Addr) (n id : Nat) : Option Addr := match n with
  | 0 => (match a with
    | none => none
    | some _ => some ⟨0, 0, some 1⟩)
  | _ + 1 => some ⟨id, 0, none⟩
def clC (n : Nat) : Nat := match n with
  | 0 => 0
  | _ + 1 => capG
def clO (n : Nat) (cs : List Value) (e : TypeId) : AObj := match n with
  | 0 => .dead
  | _ + 1 => .grow cs e
theorem RV.emp {σ : Nat → Option Nat} {i o : Nat} : RV σ (.slice (some ⟨i, o, none⟩) 0 0) anE := fun E u hv => by
  cases hv with
  | slice _ _ _ _ l hl hn => exact .anonE _ _
/-- What is known of one of the three functions. -/
structure Cln (f : FuncId) (e : TypeId) (w : Nat) : Prop where
  nil : Does Tryz.prog f [nilS] ⟨0, []⟩ nilS ⟨0, []⟩
  emp : Does Tryz.prog f [anE] ⟨0, []⟩ anE ⟨0, []⟩
  row : ∀ (n : Nat) (cs : List Value), n + 1 ≤ 100000 → cs.length = (n + 1) * w → (∀ v ∈ cs, c2 v = true) → Does Tryz.prog f [sl 0 (n + 1)] ⟨1, [(0, .ro cs)]⟩ (sl 1 (n + 1)) ((⟨1, [(0, .ro cs)]⟩ : Heap).push (.grow cs e))
theorem Cln.does {f : FuncId} {e : TypeId} {w : Nat} (h : Cln f e w) {H : Heap} {a : Option Addr} {n c k : Nat} {cs : List Value} (hs : SLH H a n c k cs) (hl : cs.length = k * w) (hk : k ≤ 100000) :
    Does Tryz.prog f [.slice a n c] H (.slice (clA a n H.next) n (clC n)) (H.push (clO n cs e)) := by
  have hem : ∀ v, (∀ s : Part, RI s v anE) → Does Tryz.prog f [v] H anE (H.push .dead) := fun v hv =>
    Does.pushDead (frame_news (obs := []) (H0 := ⟨0, []⟩) h.emp (fun ob hob => (by cases hob)) (imp_gen (fun _ => none) (fun _ _ h => nomatch h) (.cons (hv _) .nil) (fun p hp => by cases hp)) (fun σ _ => .anonE))
  rcases hs with ⟨rfl | rfl, rfl, rfl, rfl⟩ | ⟨id, off, row, rfl, rfl, hr, h1, h2, h3⟩
  · exact Does.pushDead (Does.closed (H' := ⟨0, []⟩) h.nil rfl rfl H)
  · refine hem _ fun s E u hu => ?_
    cases hu with
    | anonE a c => exact .anonE a c
  · cases n with
    | zero =>
      refine hem _ fun s E u hu => ?_
      cases hu with
      | slice _ _ _ _ l hl hn => exact .anonE _ _
    | succ n =>
      exact frame_new (h.row n cs hk hl h3) rfl h3 (imp_slice (P := Tryz.prog) (H := H) (id := id) (off := off) (c := c) (n := n + 1) (m := cs.length) (pre := []) (post := []) rfl rfl hr h1 h2 h3)
theorem cl_row {f : FuncId} {fn : Func} {c : Code} (hf : Tryz.prog.funcs[f]? = some fn) (hb : fn.body = some c) (hnt : fn.ntmps = 8) {e : TypeId} {w : Nat}
    (hr0 : (ex3 Tryz.prog pCall noOO 60 c ⟨⟨[nilS] ++ List.replicate 7 undef, ⟨0, []⟩, []⟩, True⟩).map (fin3 Tryz.prog fn []) = some (⟨1, some nilS, 0, [], []⟩, True))
    (hr1 : (ex3 Tryz.prog pCall noOO 60 c ⟨⟨[anE] ++ List.replicate 7 undef, ⟨0, []⟩, []⟩, True⟩).map (fin3 Tryz.prog fn []) = some (⟨1, some (.slice (some ⟨0, 0, none⟩) 0 0), 1, [], []⟩, True))
    {by_ : Nat} (hw : by_ ≤ 1000000)
    (hr2 : ∀ (n : Nat) (cs : List Value), (ex3 Tryz.prog pCall (appE Tryz.prog 7) 60 c ⟨⟨[sl 0 (n + 1)] ++ List.replicate 7 undef, ⟨1, [(0, .ro cs)]⟩, []⟩, True⟩).map (fin3 Tryz.prog fn [0,2]) = some (⟨1, some (sl 2 (n + 1)), 3, [.ro cs, .grow ((cs.drop 0).take ((n + 1) * (w + 1))) e], []⟩, AppN (w + 1) w by_ (n + 1) 0 cs ∧ True)) : Cln f e (w + 1) := by
  refine ⟨?_, ?_, ?_⟩
  · refine val_of_awp hf hb rfl (awp_of_awn (n := 0) ?_ (Nat.le_refl _))
    rw [hnt]
    refine pieceF hm pCall_sound noOO_sound hr0 trivial ?_
    intro e T H he hr hn hg
    cases tag1 he
    exact ⟨.inr rfl, rfl, _, hr, rfl, keep0 _⟩
  · refine news_of_awp (obs := []) hf hb (H := ⟨0, []⟩) (fun ob hob => (by cases hob)) (awp_of_awn (n := 0) ?_ (Nat.le_refl _))
    rw [hnt]
    refine pieceF hm pCall_sound noOO_sound hr1 trivial ?_
    intro e T H he hr hn hg
    cases tag1 he
    exact ⟨.inr rfl, rfl, _, hr, ⟨[], by simp, fun id hid => (by cases hid), rfl, fun σ _ => .emp⟩, keep0 _⟩
  · intro n cs hn hl hc
    refine new_of_awp (H := ⟨1, [(0, .ro cs)]⟩) hf hb hc (awp_of_awn (n := 1) ?_ (Nat.le_refl _))
    rw [hnt]
    have hr := hr2 n cs
    rw [List.drop_zero, ← hl, List.take_length] at hr
    have hb2 : (n + 1) * by_ ≤ 100000 * 1000000 := Nat.mul_le_mul hn hw
    refine pieceF hm pCall_sound appE_sound hr ⟨⟨rfl, by omega, by omega, by omega, by omega⟩, trivial⟩ ?_
    intro e T H he hr hn hg
    cases tag1 he
    exact ⟨.inr rfl, rfl, _, hr, ⟨2, rfl, by show 1 ≤ 2; omega, hg (2, _) (.tail _ (.head _))⟩, keep1 (by rw [hn]; show 1 ≤ 3; omega) (hg (0, _) (.head _))⟩
theorem cln48 : Cln 48 37 38 := cl_row (by_ := 80) Tryz.func48 (c := codeOf Tryz.f48 []) rfl rfl (by kernel_rfl) (by kernel_rfl) (by omega) (fun n cs => by kernel_rfl)
theorem cln49 : Cln 49 104 2 := cl_row (by_ := 16) Tryz.func49 (c := codeOf Tryz.f49 []) rfl rfl (by kernel_rfl) (by kernel_rfl) (by omega) (fun n cs => by kernel_rfl)
theorem cln50 : Cln 50 106 66 := cl_row (by_ := 80) Tryz.func50 (c := codeOf Tryz.f50 []) rfl rfl (by kernel_rfl) (by kernel_rfl) (by omega) (fun n cs => by kernel_rfl)
end Go.Abs

namespace Go.Abs
open Go.Proofs
set_option maxRecDepth 1000000

/-- Copies by contract. -/
def clG (cs : List Value) (e : TypeId) (w k : Nat) : List Value → Heap → Option CallR := fun args H => match args with
  | [.slice a n c] => some (.eff (.slice (clA a n H.next) n (clC n)) (H.push (clO n cs e)) (SLH H a n c k cs ∧ cs.length = k * w ∧ k ≤ 100000))
  | _ => none
theorem clG_sound {f : FuncId} {e : TypeId} {w : Nat} (h : Cln f e w) (cs : List Value) (k : Nat) : SoundC Tryz.prog (oneC f (clG cs e w k)) := oneC_sound fun args H r hr => by
  unfold clG at hr
  split at hr
  case h_2 => cases hr
  cases hr
  rintro ⟨h1, h2, h3⟩
  exact h.does h1 h2 h3

-- the heap of the laws
abbrev bL (o0 o1 o2 o3 o4 : AObj) (mc s : List Value) : List (Nat × AObj) := [(0, o0), (1, o1), (2, o2), (3, o3), (4, o4), (5, .cells mc 33), (6, .cells s 26)]
abbrev vL (o0 o1 o2 o3 o4 : AObj) (mc s : List Value) : List AObj := [o0, o1, o2, o3, o4, .cells mc 33, .cells s 26]
abbrev z33o : AObj := .cells (mcs 0 0 none 0 0 none 0 0 none 0 0 (zD ++ [i64 0, nilS, i64 0, i64 0, nilS])) 33
abbrev D20 : Defs := [(46, [pt 9, pt 10])]
abbrev k20 (z : Int) : List (Nat × Value) := [(2, i64 z), (3, pt 7), (4, pt 8), (6, pt 9), (7, pt 10), (8, pt 11)]
abbrev w20 (mc s x : List Value) : List (Nat × AObj) := [(7, .cells mc 33), (8, .cells s 26), (9, z33o), (10, .cells [i64 0] 43), (11, .cells x 26)]
theorem r20a (o0 o1 o2 o3 o4 : AObj) (m : Mg) (s x : Nat → Int) (z : Int) (ls : List Ln) (ss : List Sr) (xs : List Ct) : (ex3 Tryz.prog pCall (callO Tryz.prog (oneC 12 (mrG m.toMf ls ss xs (dgf x)))) 60 (pre 3 (codeOf Tryz.f20 [])) ⟨⟨[.agg m.all.toArray, dig (dgf s), i64 z] ++ List.replicate 44 undef, mkH 7 (bL o0 o1 o2 o3 o4 m.all (bytes (dgf s))) [], []⟩, True⟩).map (obs3 [2,3,4,6,7,8] [0,1,2,3,4,5,6,7,8,9,10,11])
  = some (⟨0, [i64 z, pt 7, pt 8, pt 9, pt 10, pt 11], 47, 12, vL o0 o1 o2 o3 o4 m.all (bytes (dgf s)) ++ [.cells m.all 33, .cells (bytes (dgf s)) 26, z33o, .cells [i64 0] 43, .cells (bytes (dgf x)) 26], D20⟩,
    MrC m.toMf ls ss xs (dgf x) ⟨11, [(10, .cells [i64 0] 43), (9, z33o), (8, .cells (bytes (dgf s)) 26), (7, .cells m.all 33)] ++ bL o0 o1 o2 o3 o4 m.all (bytes (dgf s))⟩ (.agg m.all.toArray) ∧ True) := by kernel_rfl
abbrev f20 : List Bool := [false, false, false, false, false, false, true]
abbrev sigO (z : Int) (b k : Nat) : AObj := .cells [i64 z, sl b 35, i64 z, i64 4, sl (b + 1) k] 31
theorem r20b (o0 o1 o2 o3 o4 : AObj) (m : Mg) (s x : Nat → Int) (i : Nat) (z : Int) (ps way : List (List Int)) : (dxC Tryz.prog (fcO Tryz.prog 47 (fsG (dgf s) i (dgf x) ps way)) pCall 8 [[], [], [], [grD ps, grD way], [], [], [], [z31]] f20 (codeOf Tryz.f20 [1,1,1,1]) ⟨⟨mkT 47 (k20 z) jX, mkH 12 (bL o0 o1 o2 o3 o4 m.all (bytes (dgf s)) ++ w20 m.all (bytes (dgf s)) (bytes (dgf x))) [], D20⟩, True⟩).map (obs3 [3,4,6,7,8,9] [0,1,2,3,4,5,6,7,8,9,10,11,12,13,14])
  = some (⟨0, [pt 7, pt 8, pt 9, pt 10, pt 11, pt 14], 47, 15, vL o0 o1 o2 o3 o4 m.all (bytes (dgf s)) ++ [.cells m.all 33, .cells (bytes (dgf s)) 26, z33o, .cells [i64 0] 43, .cells (bytes (dgf x)) 26, grD ps, grD way, sigO z 12 way.length], D20⟩,
    EfN D20 (EfN D20 (FrN True [z31] (PuN (RdN (RdN (FrN (SgC (dgf s) i (dgf x) ps way (dig (dgf s)) z 32 0 (bytes (dgf x))) [grD ps, grD way] (RdN (RdN (RdN True)))))))))) := by kernel_rfl
abbrev mR (m : Mf) (b : Nat) (x : List Value) (z : Int) (p k : Nat) : List Value := mcs m.p m.d (clA m.a1 m.n1 b) m.n1 (clC m.n1) (clA m.a2 m.n2 (b + 1)) m.n2 (clC m.n2) (clA m.a3 m.n3 (b + 2)) m.n3 (clC m.n3) (x ++ [i64 z, sl p 35, i64 z, i64 4, sl (p + 1) k])
noncomputable def oo20 (ls : List Ln) (ss : List Sr) (xs : List Ct) : OpO := orO (callO Tryz.prog (oneC 48 (clG (ls.flatMap Ln.cells) 37 38 ls.length))) (orO (callO Tryz.prog (oneC 49 (clG (ss.flatMap Sr.cells) 104 2 ss.length))) (callO Tryz.prog (oneC 50 (clG (xs.flatMap Ct.cells) 106 66 xs.length))))
theorem oo20_sound (ls : List Ln) (ss : List Sr) (xs : List Ct) : SoundO Tryz.prog (oo20 ls ss xs) := orO_sound (callO_sound (clG_sound cln48 _ _)) (orO_sound (callO_sound (clG_sound cln49 _ _)) (callO_sound (clG_sound cln50 _ _)))
abbrev EqN (v : Value) (L : Prop) : Prop := some v = some v ∧ L
abbrev ClN (H : Heap) (a : Option Addr) (n c k w : Nat) (cs : List Value) : Prop := SLH H a n c k cs ∧ cs.length = k * w ∧ k ≤ 100000
abbrev sgA (z : Int) (b k : Nat) : Value := .agg #[i64 z, sl b 35, i64 z, i64 4, sl (b + 1) k]
abbrev l20 (o0 o1 o2 o3 o4 : AObj) (mc s x : List Value) (z : Int) (ps way : List (List Int)) : List (Nat × AObj) := bL o0 o1 o2 o3 o4 mc s ++ w20 mc s x ++ [(12, grD ps), (13, grD way), (14, sigO z 12 way.length)]
theorem r20c (o0 o1 o2 o3 o4 : AObj) (m : Mg) (s x : Nat → Int) (z : Int) (ps way : List (List Int)) (ls : List Ln) (ss : List Sr) (xs : List Ct) : (ex3 Tryz.prog pCall (oo20 ls ss xs) 60 (codeOf Tryz.f20 [1,1,1,1,1]) ⟨⟨mkT 47 [(3, pt 7), (4, pt 8), (6, pt 9), (7, pt 10), (8, pt 11), (9, pt 14)] jX, mkH 15 (l20 o0 o1 o2 o3 o4 m.all (bytes (dgf s)) (bytes (dgf x)) z ps way) [], D20⟩, True⟩).map (fin3 Tryz.prog Tryz.f20 [0,1,2,3,4,5,6,12,13,15,16,17])
  = some (⟨1, some (.tuple #[.agg (mR m.toMf 15 (bytes (dgf x)) z 12 way.length).toArray, i64 0]), 18, vL o0 o1 o2 o3 o4 m.all (bytes (dgf s)) ++ [grD ps, grD way, clO m.n1 (ls.flatMap Ln.cells) 37, clO m.n2 (ss.flatMap Sr.cells) 104, clO m.n3 (xs.flatMap Ct.cells) 106], D20⟩,
    EqN (sgA z 12 way.length) (EqN (sgA z 12 way.length) (EqN (sgA z 12 way.length) (EqN (dig (dgf x)) (EqN (dig (dgf x)) (EqN (dig (dgf x)) (
    ClN ⟨17, (16, clO m.n2 (ss.flatMap Sr.cells) 104) :: (15, clO m.n1 (ls.flatMap Ln.cells) 37) :: (l20 o0 o1 o2 o3 o4 m.all (bytes (dgf s)) (bytes (dgf x)) z ps way)⟩ m.a3 m.n3 m.c3 xs.length 66 (xs.flatMap Ct.cells) ∧ EqN (i64 m.d) (EqN (i64 m.p) (
    EqN (.slice m.a3 m.n3 m.c3) (EqN (.slice m.a3 m.n3 m.c3) (
    ClN ⟨16, (15, clO m.n1 (ls.flatMap Ln.cells) 37) :: (l20 o0 o1 o2 o3 o4 m.all (bytes (dgf s)) (bytes (dgf x)) z ps way)⟩ m.a2 m.n2 m.c2 ss.length 2 (ss.flatMap Sr.cells) ∧ EqN (i64 m.d) (EqN (i64 m.p) (
    EqN (.slice m.a2 m.n2 m.c2) (
    ClN (mkH 15 (l20 o0 o1 o2 o3 o4 m.all (bytes (dgf s)) (bytes (dgf x)) z ps way) []) m.a1 m.n1 m.c1 ls.length 38 (ls.flatMap Ln.cells) ∧ EqN (i64 m.d) (EqN (i64 m.p) True))))))))))))))) := by kernel_rfl
end Go.Abs

