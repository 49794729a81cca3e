/- A part of the proof that the law ManifestProofs returns true at every input and leaves its arguments as they were; no condition. -/
import Derived.Test.YtkkocgjpfakfpaaGreatSMa
import Derived.Test.YtkkocgjpfakfpaaGreatSCg
set_option linter.unusedSimpArgs false
set_option linter.unusedVariables false
namespace Go.Abs
open Go.Proofs
set_option maxRecDepth 1000000

theorem lw1g {Q : APost} {o0 o1 o2 : AObj} {m : Mf} {ls : List Ln} {ss : List Sr} {xs : List Ct} (h : m.ok o0 o1 o2 ls ss xs) (ds : List (List Int)) (hds : ∀ d ∈ ds, d.length = 32) (hbd : ds.length ≤ 500000)
    (hQ : ∀ T H D, Nrm Tryz.prog 3 T H D (T11 (ds ++ ls.map Ln.leaf).length) (H11 o0 o1 o2 (.cells (m.mc jks) 33) (ds ++ ls.map Ln.leaf)) [] → Q .normal T H D) : Awn Tryz.prog 3 (codeOf Tryz.f11 [1,1,0]) Q (T11 ds.length) (H11 o0 o1 o2 (.cells (m.mc jks) 33) ds) [] := by
  refine pieceT hm pCall_sound noOO_sound 0 (r11R1 _ _) rfl trivial rfl ?_
  refine awn_block (c := codeOf Tryz.f11 [1,1,0,1,0]) (awn_loop (c := codeOf Tryz.f11 [1,1,0,1,0,0])
    (fun k T H D => ∃ i, i + k = ls.length ∧ T = mkT 101 [(1, pt 3), (3, sl 4 (ds ++ (ls.take i).map Ln.leaf).length), (4, i64 i)] jX ∧ H = H11 o0 o1 o2 (.cells (m.mc jks) 33) (ds ++ (ls.take i).map Ln.leaf) ∧ D = [])
    ls.length ⟨_, _, _, .refl _ _ _ _ _, 0, by omega, by simp, by simp [H11, grD], rfl⟩ ?_)
  rintro k T H D ⟨i, hk, rfl, rfl, rfl⟩
  have hn := h.l.n
  have hbl := h.bl
  have hds : ∀ d ∈ ds ++ (ls.take i).map Ln.leaf, d.length = 32 := fun d hd => by
    rcases List.mem_append.1 hd with hd | hd
    · exact hds d hd
    · obtain ⟨l, _, rfl⟩ := List.mem_map.1 hd; exact sumS_len _ _
  have hbd : (ds ++ (ls.take i).map Ln.leaf).length ≤ 1000000 := by simp; omega
  refine awn_seq (x := codeOf Tryz.f11 [1,1,0,1,0,0,0]) (y := codeOf Tryz.f11 [1,1,0,1,0,0,1]) ?_
  refine pieceT hm pCall_sound noOO_sound 0 (r11H1 o0 o1 o2 _ m _ i) rfl trivial rfl ?_
  refine awn_cond (c := .tmp 30) (b := decide ((i : Int) < (m.n1 : Int))) rfl rfl ?_
  cases k with
  | zero =>
    rw [decide_eq_false (by omega)]
    refine awn_exit (hQ _ _ _ ?_)
    have : ls.take i = ls := List.take_of_length_le (by omega)
    rw [show ds ++ ls.map Ln.leaf = ds ++ (ls.take i).map Ln.leaf by rw [this]]
    exact nrm_drop 2
  | succ k =>
    rw [decide_eq_true (by omega)]
    refine awn_skip ?_
    refine rd1 h _ hds hbd i k hk _ ?_
    intro T H D l hi hN
    have htk : ds ++ (ls.take i).map Ln.leaf ++ [l.leaf] = ds ++ (ls.take (i + 1)).map Ln.leaf := by
      rw [List.take_add_one, hi]; simp
    have hlen : (ds ++ (ls.take i).map Ln.leaf).length + 1 = (ds ++ (ls.take (i + 1)).map Ln.leaf).length := by rw [← htk]; exact (snoc_len _ _).symm
    rw [htk, hlen] at hN
    exact ⟨k, by omega, _, _, _, hN, i + 1, by omega, rfl, rfl, rfl⟩

theorem r11a2 (o0 o1 o2 : AObj) (m : Mf) (f : Nat → Int) : (ex3 Tryz.prog pCall (oo11a f) 60 (pre 1 (codeOf Tryz.f11 [])) ⟨⟨[.agg (m.mc jks).toArray] ++ List.replicate 100 undef, ⟨3, [(0, o0), (1, o1), (2, o2)]⟩, []⟩, True⟩).map (obs3 [3,1] [0,1,2,3,6])
  = some (⟨0, [.slice (some ⟨6, 0, none⟩) 1 1, pt 3], 101, 7, [o0, o1, o2, .cells (m.mc jks) 33, .cells (bytes (dgf f)) 26], []⟩,
    SumC f 401 (bytes (vints [m.p, m.d, m.n1, m.n2, m.n3])) 0 (vints [m.p, m.d, m.n1, m.n2, m.n3]).length ∧ True ∧ True) := by kernel_rfl

theorem does11g {o0 o1 o2 : AObj} {m : Mf} {ls : List Ln} {ss : List Sr} {xs : List Ct} (h : m.ok o0 o1 o2 ls ss xs) :
    Does Tryz.prog 11 [.agg (m.mc jks).toArray] ⟨3, [(0, o0), (1, o1), (2, o2)]⟩ (.slice (some ⟨3, 0, none⟩) (leaves m ls ss xs).length capG) ((⟨3, [(0, o0), (1, o1), (2, o2)]⟩ : Heap).push (grD (leaves m ls ss xs))) := by
  refine new_of_awp Tryz.func11 (c := codeOf Tryz.f11 []) rfl flatD_c2 (awp_of_awn (n := 3) ?_ (Nat.le_refl _))
  have hb1 := h.bl
  have hb2 := h.bs
  have hb3 := h.bx
  have hf : dgf (fn (headL m.p m.d m.n1 m.n2 m.n3)) = headL m.p m.d m.n1 m.n2 m.n3 := fn_sum _ _
  refine pieceS hm pCall_sound (oo11a_sound _) 1 (r11a2 o0 o1 o2 m (fn (headL m.p m.d m.n1 m.n2 m.n3))) rfl ⟨sumC_bytes hf (by have := vints_len [m.p, m.d, m.n1, m.n2, m.n3]; simp only [List.length_cons, List.length_nil] at this; omega), trivial, trivial⟩ rfl 5 [(3, 3), (4, 6)]
    (os2 := [(0, o0), (1, o1), (2, o2), (3, .cells (m.mc jks) 33), (4, .cells (bytes (dgf (fn (headL m.p m.d m.n1 m.n2 m.n3)))) 26)]) rfl
    (.cons ⟨rfl, h.l.ro⟩ (.cons ⟨rfl, h.s.ro⟩ (.cons ⟨rfl, h.x.ro⟩ (.cons ⟨rfl, .cells (Mf.rv h rfl rfl rfl)⟩ (.cons ⟨rfl, .cells (RV.all bytes_c2)⟩ .nil))))) .nil ?_
  rw [hf]
  have hcz : Tryz.prog.cellsOf 26 = 32 := by kernel_rfl
  refine awn_nrm (nrm_grow (q := 1) (t := 3) (i := 4) (cs := bytes (headL m.p m.d m.n1 m.n2 m.n3)) (e := 26) rfl (by rw [hcz, bytes_len]; rfl) (by omega)) ?_
  refine awn_nrm (Nrm.mk (os := [(0, o0), (1, o1), (2, o2), (3, .cells (m.mc jks) 33), (5, .grow (bytes (headL m.p m.d m.n1 m.n2 m.n3)) 26)]) (by intro p hp; simp at hp; rcases hp with rfl | rfl | rfl | rfl | rfl <;> rfl) 5 [(3, 3), (4, 5)]
    (os2 := [(0, o0), (1, o1), (2, o2), (3, .cells (m.mc jks) 33), (4, .grow (bytes (headL m.p m.d m.n1 m.n2 m.n3)) 26)]) (D2 := []) rfl (rnT_F2 3 [(3, 3), (4, 5)] _)
    (.cons ⟨rfl, h.l.ro⟩ (.cons ⟨rfl, h.s.ro⟩ (.cons ⟨rfl, h.x.ro⟩ (.cons ⟨rfl, .cells (Mf.rv h rfl rfl rfl)⟩ (.cons ⟨rfl, .grow (RV.all bytes_c2)⟩ .nil))))) .nil) ?_
  refine awn_seq (x := codeOf Tryz.f11 [1,1,0]) (y := codeOf Tryz.f11 [1,1,1]) ?_
  have hfl : bytes (headL m.p m.d m.n1 m.n2 m.n3) = flatD [headL m.p m.d m.n1 m.n2 m.n3] := by simp [flatD]
  rw [hfl]
  refine lw1g h [headL m.p m.d m.n1 m.n2 m.n3] (fun d hd => by rw [List.mem_singleton.1 hd]; exact sumS_len _ _) (by simp) ?_
  intro T H D hN
  refine awn_nrm hN ?_
  refine awn_seq (x := codeOf Tryz.f11 [1,1,1,0]) (y := codeOf Tryz.f11 [1,1,1,1]) ?_
  refine lw2 h _ (fun d hd => ?_) (by simp; omega) ?_
  · simp only [List.mem_append, List.mem_map, List.mem_singleton] at hd
    rcases hd with rfl | ⟨_, _, rfl⟩ <;> exact sumS_len _ _
  intro T H D hN
  refine awn_nrm hN ?_
  refine awn_seq (x := codeOf Tryz.f11 [1,1,1,1,0]) (y := codeOf Tryz.f11 [1,1,1,1,1]) ?_
  refine lw3 h _ (fun d hd => ?_) (by simp; omega) ?_
  · simp only [List.mem_append, List.mem_map, List.mem_singleton] at hd
    rcases hd with (rfl | ⟨_, _, rfl⟩) | ⟨_, _, rfl⟩ <;> exact sumS_len _ _
  intro T H D hN
  refine awn_nrm hN ?_
  refine pieceF hm pCall_sound noOO_sound (r11z o0 o1 o2 _ _ nilS nilS _) trivial ?_
  intro e T H he hr hn hg
  cases tag1 he
  exact ⟨.inr rfl, rfl, _, hr, ⟨4, rfl, by show 3 ≤ 4; omega, hg (4, _) (.tail _ (.tail _ (.tail _ (.head _))))⟩, keep3 (by rw [hn]; show 3 ≤ 5; omega) (hg (0, _) (.head _)) (hg (1, _) (.tail _ (.head _))) (hg (2, _) (.tail _ (.tail _ (.head _))))⟩

end Go.Abs

namespace Go.Abs
open Go.Proofs
set_option maxRecDepth 1000000

/-- The leaves under a name of their own. -/
def lvP (m : Mf) (ls : List Ln) (ss : List Sr) (xs : List Ct) (lv : List (List Int)) : List Value → Heap → Option CallR := fun args H => match args with
  | [v] => some (.eff (sl H.next lv.length) (H.push (grD lv)) (LvC m ls ss xs H v ∧ lv = leaves m ls ss xs))
  | _ => none
theorem lvP10 (m : Mf) (ls : List Ln) (ss : List Sr) (xs : List Ct) (lv : List (List Int)) : SoundC Tryz.prog (oneC 10 (lvP m ls ss xs lv)) := oneC_sound fun args H r h => by
  unfold lvP at h
  split at h
  case h_2 => cases h
  cases h
  rintro ⟨hc, rfl⟩
  obtain ⟨m0, o0, o1, o2, hok, hl, himp⟩ := lv_imp hc
  rw [← hl]
  exact frame_new (does10 hok) rfl flatD_c2 himp
theorem lvP11 (m : Mf) (ls : List Ln) (ss : List Sr) (xs : List Ct) (lv : List (List Int)) : SoundC Tryz.prog (oneC 11 (lvP m ls ss xs lv)) := oneC_sound fun args H r h => by
  unfold lvP at h
  split at h
  case h_2 => cases h
  cases h
  rintro ⟨hc, rfl⟩
  obtain ⟨m0, o0, o1, o2, hok, hl, himp⟩ := lv_imp hc
  rw [← hl]
  exact frame_new (does11g hok) rfl flatD_c2 himp

theorem SL.slh {j : Nat} {a : Option Addr} {n c : Nat} {o : AObj} {k : Nat} {cs : List Value} (hs : SL j a n c o k cs) {H : Heap} (hg : H.get j = o) : SLH H a n c k cs := by
  rcases hs with ⟨h1, h2, h3, _, h5⟩ | ⟨h1, h2, h3, h4, h5⟩
  · exact .inl ⟨h1, h2, h3, h5⟩
  · refine .inr ⟨j, 0, cs, h1, h4, ?_, by rw [List.drop_zero, List.take_length], by omega, h5⟩
    unfold Heap.row
    rw [hg, h3]
theorem Mf.lvc {m : Mf} {o0 o1 o2 : AObj} {ls : List Ln} {ss : List Sr} {xs : List Ct} (h : m.ok o0 o1 o2 ls ss xs) {H : Heap} (g0 : H.get 0 = o0) (g1 : H.get 1 = o1) (g2 : H.get 2 = o2) {rest : List Value} (hr : rest.length = 37) : LvC m ls ss xs H (.agg (m.mc rest).toArray) :=
  ⟨⟨rest, hr, rfl⟩, h.l.slh g0, h.s.slh g1, h.x.slh g2, h.bl, h.bs, h.bx⟩
theorem sliC_self {ls : List (List Int)} (h : ∀ d ∈ ls, d.length = 32) : SliC ls ls.length 0 (flatD ls) :=
  ⟨h, rfl, by rw [flatD_len h]; omega, by rw [List.drop_zero, ← flatD_len h, List.take_length]⟩

noncomputable def oo12 (k1 k2 : Nat) (m : Mf) (ls : List Ln) (ss : List Sr) (xs : List Ct) (lv : List (List Int)) (x : Nat → Int) : OpO := orO (callO Tryz.prog (oneC k1 (lvP m ls ss xs lv))) (callO Tryz.prog (oneC k2 (rtG lv (dgf x))))
theorem r12 (o0 o1 o2 : AObj) (m : Mf) (ls : List Ln) (ss : List Sr) (xs : List Ct) (lv : List (List Int)) (x : Nat → Int) : (ex3 Tryz.prog pCall (oo12 10 38 m ls ss xs lv x) 60 (codeOf Tryz.f12 []) ⟨⟨[.agg (m.mc jks).toArray] ++ List.replicate 9 undef, ⟨3, [(0, o0), (1, o1), (2, o2)]⟩, []⟩, True⟩).map (fin3 Tryz.prog Tryz.f12 [0,1,2])
  = some (⟨1, some (.tuple #[dig (dgf x), i64 0]), 7, [o0, o1, o2], [(37, [pt 4, pt 5])]⟩, (SliC lv lv.length 0 (flatD lv) ∧ 1 ≤ lv.length ∧ lv.length ≤ 63 ∧ dgf x = rootS lv) ∧
    (LvC m ls ss xs ⟨6, [(5, .cells [i64 0] 43), (4, .cells zD 26), (3, .cells (m.mc jks) 33), (0, o0), (1, o1), (2, o2)]⟩ (.agg (m.mc jks).toArray) ∧ lv = leaves m ls ss xs) ∧ True) := by kernel_rfl
theorem r13 (o0 o1 o2 : AObj) (m : Mf) (ls : List Ln) (ss : List Sr) (xs : List Ct) (lv : List (List Int)) (x : Nat → Int) : (ex3 Tryz.prog pCall (oo12 11 39 m ls ss xs lv x) 60 (codeOf Tryz.f13 []) ⟨⟨[.agg (m.mc jks).toArray] ++ List.replicate 8 undef, ⟨3, [(0, o0), (1, o1), (2, o2)]⟩, []⟩, True⟩).map (fin3 Tryz.prog Tryz.f13 [0,1,2])
  = some (⟨1, some (.tuple #[dig (dgf x), i64 0]), 6, [o0, o1, o2], []⟩, (SliC lv lv.length 0 (flatD lv) ∧ 1 ≤ lv.length ∧ lv.length ≤ 63 ∧ dgf x = rootS lv) ∧
    (LvC m ls ss xs ⟨5, [(4, .cells zD 26), (3, .cells (m.mc jks) 33), (0, o0), (1, o1), (2, o2)]⟩ (.agg (m.mc jks).toArray) ∧ lv = leaves m ls ss xs) ∧ True) := by kernel_rfl
theorem rootS_len (ls : List (List Int)) : (rootS ls).length = 32 := sumS_len _ _
theorem does12 {o0 o1 o2 : AObj} {m : Mf} {ls : List Ln} {ss : List Sr} {xs : List Ct} (h : m.ok o0 o1 o2 ls ss xs) (hb : (leaves m ls ss xs).length ≤ 63) :
    Does Tryz.prog 12 [.agg (m.mc jks).toArray] ⟨3, [(0, o0), (1, o1), (2, o2)]⟩ (.tuple #[dig (rootS (leaves m ls ss xs)), i64 0]) ⟨3, [(0, o0), (1, o1), (2, o2)]⟩ := by
  refine val_of_awp Tryz.func12 (c := codeOf Tryz.f12 []) rfl rt_c2 (awp_of_awn (n := 3) ?_ (Nat.le_refl _))
  have hl := leaves_len m ls ss xs
  have hr := r12 o0 o1 o2 m ls ss xs (leaves m ls ss xs) (fn (rootS (leaves m ls ss xs)))
  rw [show dgf (fn (rootS (leaves m ls ss xs))) = rootS (leaves m ls ss xs) from dgf_of (rootS_len _)] at hr
  have so : SoundO Tryz.prog (oo12 10 38 m ls ss xs (leaves m ls ss xs) (fn (rootS (leaves m ls ss xs)))) := orO_sound (callO_sound (lvP10 _ _ _ _ _)) (callO_sound (rt38 _ _))
  refine pieceF hm pCall_sound so hr ⟨⟨sliC_self leaves_32, by omega, hb, rfl⟩, ⟨Mf.lvc h rfl rfl rfl rfl, rfl⟩, trivial⟩ ?_
  intro e T H he hr hn hg
  cases tag1 he
  exact ⟨.inr rfl, rfl, _, hr, rfl, keep3 (by rw [hn]; show 3 ≤ 7; omega) (hg (0, _) (.head _)) (hg (1, _) (.tail _ (.head _))) (hg (2, _) (.tail _ (.tail _ (.head _))))⟩
theorem does13 {o0 o1 o2 : AObj} {m : Mf} {ls : List Ln} {ss : List Sr} {xs : List Ct} (h : m.ok o0 o1 o2 ls ss xs) (hb : (leaves m ls ss xs).length ≤ 63) :
    Does Tryz.prog 13 [.agg (m.mc jks).toArray] ⟨3, [(0, o0), (1, o1), (2, o2)]⟩ (.tuple #[dig (rootS (leaves m ls ss xs)), i64 0]) ⟨3, [(0, o0), (1, o1), (2, o2)]⟩ := by
  refine val_of_awp Tryz.func13 (c := codeOf Tryz.f13 []) rfl rt_c2 (awp_of_awn (n := 3) ?_ (Nat.le_refl _))
  have hl := leaves_len m ls ss xs
  have hr := r13 o0 o1 o2 m ls ss xs (leaves m ls ss xs) (fn (rootS (leaves m ls ss xs)))
  rw [show dgf (fn (rootS (leaves m ls ss xs))) = rootS (leaves m ls ss xs) from dgf_of (rootS_len _)] at hr
  have so : SoundO Tryz.prog (oo12 11 39 m ls ss xs (leaves m ls ss xs) (fn (rootS (leaves m ls ss xs)))) := orO_sound (callO_sound (lvP11 _ _ _ _ _)) (callO_sound (rt39 _ _))
  refine pieceF hm pCall_sound so hr ⟨⟨sliC_self leaves_32, by omega, hb, rfl⟩, ⟨Mf.lvc h rfl rfl rfl rfl, rfl⟩, trivial⟩ ?_
  intro e T H he hr hn hg
  cases tag1 he
  exact ⟨.inr rfl, rfl, _, hr, rfl, keep3 (by rw [hn]; show 3 ≤ 6; omega) (hg (0, _) (.head _)) (hg (1, _) (.tail _ (.head _))) (hg (2, _) (.tail _ (.tail _ (.head _))))⟩

/-- Roots of manifests by contract. -/
def MrC (m : Mf) (ls : List Ln) (ss : List Sr) (xs : List Ct) (x : List Int) (H : Heap) (v : Value) : Prop := LvC m ls ss xs H v ∧ (leaves m ls ss xs).length ≤ 63 ∧ x = rootS (leaves m ls ss xs)
def mrG (m : Mf) (ls : List Ln) (ss : List Sr) (xs : List Ct) (x : List Int) : List Value → Heap → Option CallR := fun args H => match args with
  | [v] => some (.same (.tuple #[dig x, i64 0]) (MrC m ls ss xs x H v))
  | _ => none
theorem mr12 (m : Mf) (ls : List Ln) (ss : List Sr) (xs : List Ct) (x : List Int) : SoundC Tryz.prog (oneC 12 (mrG m ls ss xs x)) := oneC_sound fun args H r h => by
  unfold mrG at h
  split at h
  case h_2 => cases h
  cases h
  rintro ⟨hc, hb, rfl⟩
  obtain ⟨m0, o0, o1, o2, hok, hl, himp⟩ := lv_imp hc
  rw [← hl] at hb ⊢
  exact frame_val (does12 hok hb) rt_c2 himp
theorem mr13 (m : Mf) (ls : List Ln) (ss : List Sr) (xs : List Ct) (x : List Int) : SoundC Tryz.prog (oneC 13 (mrG m ls ss xs x)) := oneC_sound fun args H r h => by
  unfold mrG at h
  split at h
  case h_2 => cases h
  cases h
  rintro ⟨hc, hb, rfl⟩
  obtain ⟨m0, o0, o1, o2, hok, hl, himp⟩ := lv_imp hc
  rw [← hl] at hb ⊢
  exact frame_val (does13 hok hb) rt_c2 himp

-- digests compared
theorem r14a (n : Nat) (cs ds : List Value) : (ex3 Tryz.prog pCall noOO 60 (pre 0 (codeOf Tryz.f14 [])) ⟨⟨[sl 0 n, sl 1 n] ++ List.replicate 24 undef, ⟨2, [(0, .ro cs), (1, .ro ds)]⟩, []⟩, True⟩).map (obsQ [0,1])
  = some (⟨0, [sl 0 n, sl 1 n], 26, ⟨2, [(0, .ro cs), (1, .ro ds)]⟩, []⟩, True) := by kernel_rfl
theorem r14b (n : Nat) (H : Heap) : (ex3 Tryz.prog pCall noOO 60 (pre 0 (codeOf Tryz.f14 [1,0])) ⟨⟨mkT 26 [(0, sl 0 n), (1, sl 1 n)] jX, H, []⟩, True⟩).map (obsQ [0,1,10])
  = some (⟨0, [sl 0 n, sl 1 n, .bool ((n : Int) != (n : Int))], 26, H, []⟩, True) := by kernel_rfl
theorem r14c (n : Nat) (b : Value) (H : Heap) : (ex3 Tryz.prog pCall noOO 60 (pre 0 (codeOf Tryz.f14 [1,1,0])) ⟨⟨mkT 26 [(0, sl 0 n), (1, sl 1 n), (10, b)] jX, H, []⟩, True⟩).map (obsQ [0,1,5])
  = some (⟨0, [sl 0 n, sl 1 n, i64 ((0 : Nat) : Int)], 26, H, []⟩, True) := by kernel_rfl
theorem r14d (n : Nat) (i : Int) (H : Heap) : (ex3 Tryz.prog pCall noOO 60 (pre 0 (codeOf Tryz.f14 [1,1,0,1,0,0,0])) ⟨⟨mkT 26 [(0, sl 0 n), (1, sl 1 n), (5, i64 i)] jX, H, []⟩, True⟩).map (obsQ [0,1,5,14])
  = some (⟨0, [sl 0 n, sl 1 n, i64 i, .bool (decide (i < (n : Int)))], 26, H, []⟩, True) := by kernel_rfl
noncomputable def oo14 (f : Nat → Int) : OpO := orO (idxO Tryz.prog 19) (orO (ldO Tryz.prog 20 (dig (dgf f))) (orO (idxO Tryz.prog 23) (orO (ldO Tryz.prog 24 (dig (dgf f))) (neqO 25))))
theorem oo14_sound (f : Nat → Int) : SoundO Tryz.prog (oo14 f) := orO_sound idxO_sound (orO_sound ldO_sound (orO_sound idxO_sound (orO_sound ldO_sound neqO_sound)))
theorem r14e (n : Nat) (i : Int) (f : Nat → Int) (b : Value) (cs ds : List Value) : (ex3 Tryz.prog pCall (oo14 f) 60 (codeOf Tryz.f14 [1,1,0,1,0,0,1]) ⟨⟨mkT 26 [(0, sl 0 n), (1, sl 1 n), (5, i64 i), (14, b)] jX, ⟨2, [(0, .ro cs), (1, .ro ds)]⟩, []⟩, True⟩).map (obs3 [0,1,5] [0,1])
  = some (⟨0, [sl 0 n, sl 1 n, i64 (IntKind.i64.wrap (i + 1))], 26, 2, [.ro cs, .ro ds], []⟩,
    NeqC (dA f) (dA f) ∧ LdC Tryz.prog 26 (some ds) (0 + i.toNat * 32) (dig (dgf f)) ∧ ((0 : Int) ≤ i ∧ i < (n : Int)) ∧ LdC Tryz.prog 26 (some cs) (0 + i.toNat * 32) (dig (dgf f)) ∧ ((0 : Int) ≤ i ∧ i < (n : Int)) ∧ True) := by kernel_rfl
theorem r14f (n : Nat) (i : Value) (b : Value) (cs ds : List Value) : (ex3 Tryz.prog pCall noOO 60 (codeOf Tryz.f14 [1,1,1]) ⟨⟨mkT 26 [(0, sl 0 n), (1, sl 1 n), (5, i), (14, b)] jX, ⟨2, [(0, .ro cs), (1, .ro ds)]⟩, []⟩, True⟩).map (fin3 Tryz.prog Tryz.f14 [0,1])
  = some (⟨1, some (.bool true), 2, [.ro cs, .ro ds], []⟩, True) := by kernel_rfl
theorem keep2 {o0 o1 : AObj} {H : Heap} (h1 : 2 ≤ H.next) (g0 : H.get 0 = o0) (g1 : H.get 1 = o1) : Keep ⟨2, [(0, o0), (1, o1)]⟩ H := ⟨h1, fun id hid => by
  have : id = 0 ∨ id = 1 := by have : id < 2 := hid; omega
  rcases this with rfl | rfl
  · exact g0
  · exact g1⟩
theorem does14 {ls : List (List Int)} (h : ∀ d ∈ ls, d.length = 32) (hb : ls.length ≤ 100000) :
    Does Tryz.prog 14 [sl 0 ls.length, sl 1 ls.length] ⟨2, [(0, .ro (flatD ls)), (1, .ro (flatD ls))]⟩ (.bool true) ⟨2, [(0, .ro (flatD ls)), (1, .ro (flatD ls))]⟩ := by
  refine val_of_awp Tryz.func14 (c := codeOf Tryz.f14 []) rfl rfl (awp_of_awn (n := 2) ?_ (Nat.le_refl _))
  generalize hn : ls.length = n at *
  have hro : ∀ (σ : Nat → Option Nat), RO σ (.ro (flatD ls)) (.ro (flatD ls)) := fun σ => .ro (RV.all flatD_c2)
  refine pieceT hm pCall_sound noOO_sound 0 (r14a n _ _) rfl trivial rfl ?_
  refine awn_seq (x := codeOf Tryz.f14 [1,0]) (y := codeOf Tryz.f14 [1,1]) ?_
  refine pieceT hm pCall_sound noOO_sound 0 (r14b n _) rfl trivial rfl ?_
  refine awn_cond (c := .tmp 10) (b := ((n : Int) != (n : Int))) rfl rfl ?_
  rw [show ((n : Int) != (n : Int)) = false by simp]
  refine awn_skip ?_
  refine awn_seq (x := codeOf Tryz.f14 [1,1,0]) (y := codeOf Tryz.f14 [1,1,1]) ?_
  refine pieceT hm pCall_sound noOO_sound 0 (r14c n _ _) rfl trivial rfl ?_
  refine awn_block (c := codeOf Tryz.f14 [1,1,0,1,0]) (awn_loop (c := codeOf Tryz.f14 [1,1,0,1,0,0])
    (fun k T H D => ∃ i, i + k = n ∧ T = mkT 26 [(0, sl 0 n), (1, sl 1 n), (5, i64 (i : Int))] jX ∧ H = mkH 2 [(0, .ro (flatD ls)), (1, .ro (flatD ls))] [] ∧ D = [])
    n ⟨_, _, _, .refl _ _ _ _ _, 0, by omega, rfl, rfl, rfl⟩ ?_)
  rintro k T H D ⟨i, hk, rfl, rfl, rfl⟩
  refine awn_seq (x := codeOf Tryz.f14 [1,1,0,1,0,0,0]) (y := codeOf Tryz.f14 [1,1,0,1,0,0,1]) ?_
  refine pieceT hm pCall_sound noOO_sound 0 (r14d n _ _) rfl trivial rfl ?_
  refine awn_cond (c := .tmp 14) (b := decide ((i : Int) < (n : Int))) rfl rfl ?_
  cases k with
  | zero =>
    rw [decide_eq_false (by omega)]
    refine awn_exit ?_
    refine pieceF hm pCall_sound noOO_sound (r14f n _ _ _ _) trivial ?_
    intro e T H he hr hn hg
    cases tag1 he
    exact ⟨.inr rfl, rfl, _, hr, rfl, keep2 (by rw [hn]; exact Nat.le_refl _) (hg (0, _) (.head _)) (hg (1, _) (.tail _ (.head _)))⟩
  | succ k =>
    rw [decide_eq_true (by omega)]
    refine awn_skip ?_
    obtain ⟨hl1, hl2⟩ := getD_32 h (i := i) (by omega)
    generalize ls.getD i [] = d at hl1 hl2
    have hr := r14e n (i : Int) (fn d) (.bool true) (flatD ls) (flatD ls)
    have hw := wrap_i1 (i := i) (by omega)
    have hL := flatD_at h hl2
    have hfd : dgf (fn d) = d := dgf_of hl1
    rw [← hfd] at hL
    rw [hw] at hr
    refine pieceE hm pCall_sound (oo14_sound _) hr ⟨neq_ok _, hL, ⟨by omega, by omega⟩, hL, ⟨by omega, by omega⟩, trivial⟩ rfl 2 [] (os2 := [(0, .ro (flatD ls)), (1, .ro (flatD ls))]) rfl (.cons ⟨rfl, hro _⟩ (.cons ⟨rfl, hro _⟩ .nil)) .nil ?_
    intro T H D hN
    exact ⟨k, by omega, _, _, _, hN, i + 1, by omega, rfl, rfl, rfl⟩
def sdG (ls : List (List Int)) : List Value → Heap → Option CallR := fun args H => match args with
  | [.slice (some ⟨id, off, none⟩) n _, .slice (some ⟨id2, off2, none⟩) n2 _] => (match H.row id, H.row id2 with
    | some cs, some cs2 => some (.same (.bool true) (SliC ls n off cs ∧ SliC ls n2 off2 cs2 ∧ ls.length ≤ 100000))
    | _, _ => none)
  | _ => none
theorem sd14 (ls : List (List Int)) : SoundC Tryz.prog (oneC 14 (sdG ls)) := oneC_sound fun args H r h => by
  unfold sdG at h
  split at h
  case h_2 => cases h
  rename_i id off n c id2 off2 n2 c2
  split at h
  case h_2 => cases h
  rename_i cs cs2 hr hr2
  cases h
  rintro ⟨⟨g1, rfl, g3, g4⟩, ⟨_, rfl, k3, k4⟩, hb⟩
  have hfl := flatD_len g1
  refine frame_val (does14 g1 hb) rfl (imp_gen (fun j => if j = 0 then some (id, off, c) else if j = 1 then some (id2, off2, c2) else none) ?_ (.cons (RI.slice rfl) (.cons (RI.slice rfl) .nil)) ?_)
  · intro j x hj
    by_cases h0 : j = 0
    · omega
    · by_cases h1 : j = 1
      · omega
      · simp [h0, h1] at hj
  · intro p hp
    simp only [List.mem_cons, List.not_mem_nil, or_false] at hp
    rcases hp with rfl | rfl
    · exact .inr ⟨id, off, c, cs, flatD ls, flatD ls, rfl, hr, rfl, by rw [hfl]; exact g4, RI.all flatD_c2, by rw [hfl]; exact g3⟩
    · exact .inr ⟨id2, off2, c2, cs2, flatD ls, flatD ls, rfl, hr2, rfl, by rw [hfl]; exact k4, RI.all flatD_c2, by rw [hfl]; exact k3⟩
end Go.Abs

namespace Go.Abs
open Go.Proofs
set_option maxRecDepth 1000000
/-- Digests that are the same are equal. -/
def eqlO (d : Nat) : OpO := fun o ρ _ => match o.dst with
  | some d' => bif Nat.beq d' d then (match o.op with
    | .binOp .eql t x y _ => match ρ x, ρ y with
      | .agg vs, .agg ws => bif Nat.beq t 26 then some (.pure (.bool true) (NeqC vs ws)) else none
      | _, _ => none
    | _ => none) else none
  | none => none
theorem eqlO_sound {d : Nat} : SoundO Tryz.prog (eqlO d) := by
  have key : ∀ o ρ H r, eqlO d o ρ H = some r → ∃ v c, r = .pure v c ∧ (c → SPure Tryz.prog o ρ v) := by
    intro o ρ H r h
    unfold eqlO at h
    split at h
    case h_2 => cases h
    obtain ⟨_, h⟩ := cond_opt h
    split at h
    case h_2 => cases h
    rename_i t x y yt ho
    split at h
    case h_2 => cases h
    rename_i vs ws hvx hvy
    obtain ⟨ht, h⟩ := cond_opt h
    have ht := beqN ht
    subst ht
    cases h
    refine ⟨_, _, rfl, fun ⟨h1, h2, h3⟩ H2 => .of_Q fun B E a w hH hr => ?_⟩
    subst h1
    have hc : c2 (.agg vs) = true := by
      simp only [c2, c1, Array.all_eq_true']
      intro v hv
      have := h3 v (by rw [Array.mem_toList_iff]; exact hv)
      cases v <;> first | rfl | cases this
    have ex := eq_of_c2 (hvx ▸ hr x (by simp [ho, Op.operands])) hc
    have ey := eq_of_c2 (hvy ▸ hr y (by simp [ho, Op.operands])) hc
    obtain ⟨dst, op, type, pos, after, guard⟩ := o
    simp only at ho
    subst ho
    refine ⟨.bool true, ?_, .bool true⟩
    have hg := run_eqGuard_agg (P := Tryz.prog) w .eql 26 x y vs vs guard26
    have hq := run_eql_struct (P := Tryz.prog) w 26 vs vs
    rw [equal_same w vs h2 h3] at hq
    simp only [execOp, ex, ey, Sem.run_bind, hg, Result.andThen_ok, hq]
    rfl
  refine ⟨fun o ρ H v ob c h => ?_, fun o ρ H v c h => ?_, fun o ρ H v c h => ?_, fun o ρ H v c h => ?_, fun o ρ H v H' c h => ?_⟩
  · obtain ⟨_, _, h, k⟩ := key _ _ _ _ h; cases h
  · obtain ⟨_, _, h, k⟩ := key _ _ _ _ h; cases h
  · obtain ⟨_, _, h, k⟩ := key _ _ _ _ h; cases h; exact k
  · obtain ⟨_, _, h, k⟩ := key _ _ _ _ h; cases h
  · obtain ⟨_, _, h, k⟩ := key _ _ _ _ h; cases h
end Go.Abs

namespace Go.Abs
open Go.Proofs
set_option maxRecDepth 1000000

/-- The end of a law. -/
def EndF (fn : Func) (H0 : Heap) : APost := fun ex T' H' D' => (ex = .normal ∨ ex = .ret) ∧ (D'.all fun d => quietDefer Tryz.prog d.1 && callable Tryz.prog d.1) = true ∧ ∃ u, resA Tryz.prog fn T' H' = some u ∧ u = .bool true ∧ Keep H0 H'
theorem pieceY {fn : Func} {call : CallF} (hO : ∀ f args H v h, call f args H = some (v, h) → Does Tryz.prog f args H v (h.getD H)) {OO : OpO} (hOO : SoundO Tryz.prog OO) {n m : Nat} {c : Code} {T : List Value} {H H0 : Heap} {L : Prop} (h : (ex3 Tryz.prog call OO m c ⟨⟨T, H, []⟩, True⟩).map (fun r => (r.1.tag, resA Tryz.prog fn r.2.T r.2.H, r.2.H, r.2.D, r.2.L)) = some (1, some (.bool true), H, [], L)) (hL : L) (hk : Keep H0 H) :
    Awn Tryz.prog n c (fun e T H D => e = .ret ∧ EndF fn H0 e T H D) T H [] := by
  cases hr : ex3 Tryz.prog call OO m c ⟨⟨T, H, []⟩, True⟩ with
  | none => rw [hr] at h; cases h
  | some r =>
    rw [hr] at h
    simp only [Option.map_some, Option.some.injEq, Prod.mk.injEq] at h
    obtain ⟨h1, h2, h3, h4, h5⟩ := h
    refine awn_of (awp_mono (ex3_sound hm hO hOO m c _ r hr (h5 ▸ hL)).2 ?_)
    rintro e T H D ⟨rfl, rfl, rfl, rfl⟩
    have := tag1 h1
    refine ⟨by rw [this]; rfl, .inr (by rw [this]; rfl), ?_, _, h2, rfl, ?_⟩
    · show (List.all r.2.D _) = true
      rw [h4]; rfl
    · show Keep H0 r.2.H
      rw [h3]; exact hk

abbrev H4a (o0 o1 o2 : AObj) (mc : List Value) : Heap := mkH 6 [(0, o0), (1, o1), (2, o2), (5, .cells mc 33)] []
theorem r4a (o0 o1 o2 : AObj) (m : Mg) : (ex3 Tryz.prog pCall noOO 60 (pre 0 (codeOf Tryz.f4 [])) ⟨⟨[.agg m.all.toArray] ++ List.replicate 38 undef, ⟨5, [(0, o0), (1, o1), (2, o2)]⟩, []⟩, True⟩).map (obs3 [1] [0,1,2,5])
  = some (⟨0, [pt 5], 39, 6, [o0, o1, o2, .cells m.all 33], []⟩, True) := by kernel_rfl
theorem r4b0 (o0 o1 o2 : AObj) (m : Mg) : (ex3 Tryz.prog pCall (oo3a [false, true, true, true, true]) 60 (pre 0 (codeOf Tryz.f4 [1,0])) ⟨⟨mkT 39 [(1, pt 5)] jX, H4a o0 o1 o2 m.all, []⟩, True⟩).map (obs3 [1,9] [0,1,2,5])
  = some (⟨0, [pt 5, .bool true], 39, 7, [o0, o1, o2, .cells m.all 33], []⟩, (dcd m.n1 20 false ∧ True) ∧ True) := by kernel_rfl
theorem r4b1 (o0 o1 o2 : AObj) (m : Mg) : (ex3 Tryz.prog pCall (oo3a [true, false, true, true, true]) 60 (pre 0 (codeOf Tryz.f4 [1,0])) ⟨⟨mkT 39 [(1, pt 5)] jX, H4a o0 o1 o2 m.all, []⟩, True⟩).map (obs3 [1,9] [0,1,2,5])
  = some (⟨0, [pt 5, .bool true], 39, 7, [o0, o1, o2, .cells m.all 33], []⟩, (dcd m.n2 20 false ∧ dcd m.n1 20 true ∧ True) ∧ True) := by kernel_rfl
theorem r4b2 (o0 o1 o2 : AObj) (m : Mg) : (ex3 Tryz.prog pCall (oo3a [true, true, false, true, true]) 60 (pre 0 (codeOf Tryz.f4 [1,0])) ⟨⟨mkT 39 [(1, pt 5)] jX, H4a o0 o1 o2 m.all, []⟩, True⟩).map (obs3 [1,9] [0,1,2,5])
  = some (⟨0, [pt 5, .bool true], 39, 7, [o0, o1, o2, .cells m.all 33], []⟩, (dcd m.n3 20 false ∧ dcd m.n2 20 true ∧ dcd m.n1 20 true ∧ True) ∧ True) := by kernel_rfl
theorem r4b3 (o0 o1 o2 : AObj) (m : Mg) : (ex3 Tryz.prog pCall (oo3a [true, true, true, false, true]) 60 (pre 0 (codeOf Tryz.f4 [1,0])) ⟨⟨mkT 39 [(1, pt 5)] jX, H4a o0 o1 o2 m.all, []⟩, True⟩).map (obs3 [1,9] [0,1,2,5])
  = some (⟨0, [pt 5, .bool true], 39, 7, [o0, o1, o2, .cells m.all 33], []⟩, (dcd m.n4 40 false ∧ dcd m.n3 20 true ∧ dcd m.n2 20 true ∧ dcd m.n1 20 true ∧ True) ∧ True) := by kernel_rfl
theorem r4b4 (o0 o1 o2 : AObj) (m : Mg) : (ex3 Tryz.prog pCall (oo3a [true, true, true, true, false]) 60 (pre 0 (codeOf Tryz.f4 [1,0])) ⟨⟨mkT 39 [(1, pt 5)] jX, H4a o0 o1 o2 m.all, []⟩, True⟩).map (obs3 [1,9] [0,1,2,5])
  = some (⟨0, [pt 5, .bool true], 39, 7, [o0, o1, o2, .cells m.all 33], []⟩, (dcd m.n5 20 false ∧ dcd m.n4 40 true ∧ dcd m.n3 20 true ∧ dcd m.n2 20 true ∧ dcd m.n1 20 true ∧ True) ∧ True) := by kernel_rfl
theorem r4b5 (o0 o1 o2 : AObj) (m : Mg) : (ex3 Tryz.prog pCall (oo3a [true, true, true, true, true]) 60 (pre 0 (codeOf Tryz.f4 [1,0])) ⟨⟨mkT 39 [(1, pt 5)] jX, H4a o0 o1 o2 m.all, []⟩, True⟩).map (obs3 [1,9] [0,1,2,5])
  = some (⟨0, [pt 5, .bool false], 39, 7, [o0, o1, o2, .cells m.all 33], []⟩, (dcd m.n5 20 true ∧ dcd m.n4 40 true ∧ dcd m.n3 20 true ∧ dcd m.n2 20 true ∧ dcd m.n1 20 true ∧ True) ∧ True) := by kernel_rfl
theorem r4c (b : Value) (H : Heap) : (ex3 Tryz.prog pCall (callO Tryz.prog (oneC 9 awG)) 60 (codeOf Tryz.f4 [1,0,1,0]) ⟨⟨mkT 39 [(1, pt 5), (9, b)] jX, H, []⟩, True⟩).map (fun r => (r.1.tag, resA Tryz.prog Tryz.f4 r.2.T r.2.H, r.2.H, r.2.D, r.2.L))
  = some (1, some (.bool true), H, [], True ∧ True) := by kernel_rfl
theorem r4d (o0 o1 o2 : AObj) (m : Mg) (ls : List Ln) (ss : List Sr) (xs : List Ct) (x : Nat → Int) (b : Value) : (ex3 Tryz.prog pCall (callO Tryz.prog (oneC 12 (mrG m.toMf ls ss xs (dgf x)))) 60 (pre 0 (codeOf Tryz.f4 [1,1])) ⟨⟨mkT 39 [(1, pt 5), (9, b)] jX, H4a o0 o1 o2 m.all, []⟩, True⟩).map (obs3 [1,3,4] [0,1,2,5,6])
  = some (⟨0, [pt 5, pt 6, i64 0], 39, 7, [o0, o1, o2, .cells m.all 33, .cells (bytes (dgf x)) 26], []⟩, MrC m.toMf ls ss xs (dgf x) (H4a o0 o1 o2 m.all) (.agg m.all.toArray) ∧ True) := by kernel_rfl
theorem r4e (o0 o1 o2 : AObj) (m : Mg) (ls : List Ln) (ss : List Sr) (xs : List Ct) (x : Nat → Int) : (ex3 Tryz.prog pCall (callO Tryz.prog (oneC 13 (mrG m.toMf ls ss xs (dgf x)))) 60 (pre 0 (codeOf Tryz.f4 [1,1,1])) ⟨⟨mkT 39 [(1, pt 5), (3, pt 6), (4, i64 0)] jX, mkH 7 [(0, o0), (1, o1), (2, o2), (5, .cells m.all 33), (6, .cells (bytes (dgf x)) 26)] [], []⟩, True⟩).map (obs3 [1,3,4,5,6] [0,1,2,5,6,7])
  = some (⟨0, [pt 5, pt 6, i64 0, pt 7, i64 0], 39, 8, [o0, o1, o2, .cells m.all 33, .cells (bytes (dgf x)) 26, .cells (bytes (dgf x)) 26], []⟩, MrC m.toMf ls ss xs (dgf x) (mkH 7 [(0, o0), (1, o1), (2, o2), (5, .cells m.all 33), (6, .cells (bytes (dgf x)) 26)] []) (.agg m.all.toArray) ∧ True) := by kernel_rfl
noncomputable def oo4 (m : Mf) (ls : List Ln) (ss : List Sr) (xs : List Ct) (lv : List (List Int)) : OpO := orO (callO Tryz.prog (oneC 10 (lvP m ls ss xs lv))) (orO (callO Tryz.prog (oneC 11 (lvP m ls ss xs lv))) (orO (callO Tryz.prog (oneC 14 (sdG lv))) (orO (callO Tryz.prog (oneC 9 awG)) (eqlO 29))))
theorem oo4_sound (h9 : ∀ H, Does Tryz.prog 9 [] H (.bool true) H) (m : Mf) (ls : List Ln) (ss : List Sr) (xs : List Ct) (lv : List (List Int)) : SoundO Tryz.prog (oo4 m ls ss xs lv) := orO_sound (callO_sound (lvP10 _ _ _ _ _)) (orO_sound (callO_sound (lvP11 _ _ _ _ _)) (orO_sound (callO_sound (sd14 _)) (orO_sound (callO_sound (awG_sound h9)) eqlO_sound)))
abbrev H4f (o0 o1 o2 : AObj) (mc : List Value) (x : List Int) : Heap := mkH 8 [(0, o0), (1, o1), (2, o2), (5, .cells mc 33), (6, .cells (bytes x) 26), (7, .cells (bytes x) 26)] []
theorem r4f (o0 o1 o2 : AObj) (m : Mg) (ls : List Ln) (ss : List Sr) (xs : List Ct) (lv : List (List Int)) (x : Nat → Int) : (ex3 Tryz.prog pCall (oo4 m.toMf ls ss xs lv) 60 (codeOf Tryz.f4 [1,1,1,1]) ⟨⟨mkT 39 [(1, pt 5), (3, pt 6), (4, i64 0), (5, pt 7), (6, i64 0)] jX, H4f o0 o1 o2 m.all (dgf x), []⟩, True⟩).map (fin3 Tryz.prog Tryz.f4 [0,1,2,3,4])
  = some (⟨1, some (.bool true), 10, [o0, o1, o2, .dead, .dead], []⟩, True ∧ NeqC (dA x) (dA x) ∧ (SliC lv lv.length 0 (flatD lv) ∧ SliC lv lv.length 0 (flatD lv) ∧ lv.length ≤ 100000) ∧
    (LvC m.toMf ls ss xs ((H4f o0 o1 o2 m.all (dgf x)).push (grD lv)) (.agg m.all.toArray) ∧ lv = leaves m.toMf ls ss xs) ∧ some (Value.agg m.all.toArray) = some (Value.agg m.all.toArray) ∧ (LvC m.toMf ls ss xs (H4f o0 o1 o2 m.all (dgf x)) (.agg m.all.toArray) ∧ lv = leaves m.toMf ls ss xs) ∧ True) := by kernel_rfl

theorem does4 (h9 : ∀ H, Does Tryz.prog 9 [] H (.bool true) H) {o0 o1 o2 : AObj} {m : Mg} {ls : List Ln} {ss : List Sr} {xs : List Ct} (hl : SL 0 m.a1 m.n1 m.c1 o0 ls.length (ls.flatMap Ln.cells)) (hs : SL 1 m.a2 m.n2 m.c2 o1 ss.length (ss.flatMap Sr.cells)) (hx : SL 2 m.a3 m.n3 m.c3 o2 xs.length (xs.flatMap Ct.cells)) (hp : SN 3 m.a4 m.n4 m.c4) (hq : SN 4 m.a5 m.n5 m.c5) :
    Does Tryz.prog 4 [.agg m.all.toArray] ⟨5, [(0, o0), (1, o1), (2, o2)]⟩ (.bool true) ⟨5, [(0, o0), (1, o1), (2, o2)]⟩ := by
  refine val_of_awp Tryz.func4 (c := codeOf Tryz.f4 []) rfl rfl (awp_of_awn (n := 5) ?_ (Nat.le_refl _))
  have hn1 := hl.n
  have hn2 := hs.n
  have hn3 := hx.n
  have hrv : ∀ (σ : Nat → Option Nat), σ 0 = some 0 → σ 1 = some 1 → σ 2 = some 2 → σ 3 = some 3 → σ 4 = some 4 → F2 (RV σ) m.all m.all := fun σ h0 h1 h2 h3 h4 =>
    .cons (.closed rfl) (.cons (.closed rfl) (.cons (hl.rv h0) (.cons (hs.rv h1) (.cons (hx.rv h2) (F2.append2 (RV.all bytes_c2) (.cons (.closed rfl) (.cons (hp.rv (j := 3) h3) (.cons (.closed rfl) (.cons (.closed rfl) (.cons (hq.rv (j := 4) h4) .nil))))))))))
  have hobA : ∀ s, sg 5 s 5 = some 5 → F2 (fun (p q : Nat × AObj) => sg 5 s q.1 = some p.1 ∧ RO (sg 5 s) p.2 q.2) [(0, o0), (1, o1), (2, o2), (5, .cells m.all 33)] [(0, o0), (1, o1), (2, o2), (5, .cells m.all 33)] := fun s e5 =>
    .cons ⟨rfl, hl.ro⟩ (.cons ⟨rfl, hs.ro⟩ (.cons ⟨rfl, hx.ro⟩ (.cons ⟨e5, .cells (hrv _ rfl rfl rfl rfl rfl)⟩ .nil)))
  refine pieceS hm pCall_sound noOO_sound 0 (r4a o0 o1 o2 m) rfl trivial rfl 6 [(5, 5)] rfl (hobA _ rfl) .nil ?_
  refine awn_seq (x := codeOf Tryz.f4 [1,0]) (y := codeOf Tryz.f4 [1,1]) ?_
  have awk : ∀ (b : Value), Awn Tryz.prog 5 (codeOf Tryz.f4 [1,0,1,0]) (thenA (Awn Tryz.prog 5 (codeOf Tryz.f4 [1,1]) (EndF Tryz.f4 ⟨5, [(0, o0), (1, o1), (2, o2)]⟩)) (EndF Tryz.f4 ⟨5, [(0, o0), (1, o1), (2, o2)]⟩)) (mkT 39 [(1, pt 5), (9, b)] jX) (H4a o0 o1 o2 m.all) [] := fun b =>
    awn_mono (Q := fun e T H D => e = .ret ∧ EndF Tryz.f4 ⟨5, [(0, o0), (1, o1), (2, o2)]⟩ e T H D) (pieceY pCall_sound (callO_sound (awG_sound h9)) (r4c b _) ⟨trivial, trivial⟩ (keep5 (by show 5 ≤ 6; omega) rfl rfl rfl rfl rfl)) (by rintro e T H D ⟨rfl, h⟩; exact h)
  by_cases h1 : m.n1 ≤ 20
  case neg =>
    refine pieceS hm pCall_sound (oo3a_sound false true true true true) 0 (r4b0 o0 o1 o2 m) rfl ⟨⟨dcd_of (decide_eq_false h1), trivial⟩, trivial⟩ rfl 6 [(5, 5)] rfl (hobA _ rfl) .nil ?_
    exact awn_cond (c := .tmp 9) (b := true) rfl rfl (awk _)
  by_cases h2 : m.n2 ≤ 20
  case neg =>
    refine pieceS hm pCall_sound (oo3a_sound true false true true true) 0 (r4b1 o0 o1 o2 m) rfl ⟨⟨dcd_of (decide_eq_false h2), dcd_of (decide_eq_true h1), trivial⟩, trivial⟩ rfl 6 [(5, 5)] rfl (hobA _ rfl) .nil ?_
    exact awn_cond (c := .tmp 9) (b := true) rfl rfl (awk _)
  by_cases h3 : m.n3 ≤ 20
  case neg =>
    refine pieceS hm pCall_sound (oo3a_sound true true false true true) 0 (r4b2 o0 o1 o2 m) rfl ⟨⟨dcd_of (decide_eq_false h3), dcd_of (decide_eq_true h2), dcd_of (decide_eq_true h1), trivial⟩, trivial⟩ rfl 6 [(5, 5)] rfl (hobA _ rfl) .nil ?_
    exact awn_cond (c := .tmp 9) (b := true) rfl rfl (awk _)
  by_cases h4 : m.n4 ≤ 40
  case neg =>
    refine pieceS hm pCall_sound (oo3a_sound true true true false true) 0 (r4b3 o0 o1 o2 m) rfl ⟨⟨dcd_of (decide_eq_false h4), dcd_of (decide_eq_true h3), dcd_of (decide_eq_true h2), dcd_of (decide_eq_true h1), trivial⟩, trivial⟩ rfl 6 [(5, 5)] rfl (hobA _ rfl) .nil ?_
    exact awn_cond (c := .tmp 9) (b := true) rfl rfl (awk _)
  by_cases h5 : m.n5 ≤ 20
  case neg =>
    refine pieceS hm pCall_sound (oo3a_sound true true true true false) 0 (r4b4 o0 o1 o2 m) rfl ⟨⟨dcd_of (decide_eq_false h5), dcd_of (decide_eq_true h4), dcd_of (decide_eq_true h3), dcd_of (decide_eq_true h2), dcd_of (decide_eq_true h1), trivial⟩, trivial⟩ rfl 6 [(5, 5)] rfl (hobA _ rfl) .nil ?_
    exact awn_cond (c := .tmp 9) (b := true) rfl rfl (awk _)
  refine pieceS hm pCall_sound (oo3a_sound true true true true true) 0 (r4b5 o0 o1 o2 m) rfl ⟨⟨dcd_of (decide_eq_true h5), dcd_of (decide_eq_true h4), dcd_of (decide_eq_true h3), dcd_of (decide_eq_true h2), dcd_of (decide_eq_true h1), trivial⟩, trivial⟩ rfl 6 [(5, 5)] rfl (hobA _ rfl) .nil ?_
  refine awn_cond (c := .tmp 9) (b := false) rfl rfl (awn_skip ?_)
  have h : m.toMf.ok o0 o1 o2 ls ss xs := ⟨hl, hs, hx, by omega, by omega, by omega⟩
  have hll := leaves_len m.toMf ls ss xs
  generalize hlv : leaves m.toMf ls ss xs = lv at hll
  have hlv32 : ∀ d ∈ lv, d.length = 32 := by rw [← hlv]; exact leaves_32
  have hfx : dgf (fn (rootS lv)) = rootS lv := dgf_of (rootS_len _)
  have hrd := r4d o0 o1 o2 m ls ss xs (fn (rootS lv)) (.bool false)
  have hre := r4e o0 o1 o2 m ls ss xs (fn (rootS lv))
  have hrf := r4f o0 o1 o2 m ls ss xs lv (fn (rootS lv))
  have hneq := neq_ok (fn (rootS lv))
  rw [hfx] at hrd hre hrf
  refine pieceS hm pCall_sound (callO_sound (mr12 _ _ _ _ _)) 0 hrd rfl ⟨⟨Mf.lvc h rfl rfl rfl m.rest_len, by rw [hlv]; omega, by rw [hlv]⟩, trivial⟩ rfl 7 [(5, 5), (6, 6)] (os2 := [(0, o0), (1, o1), (2, o2), (5, .cells m.all 33), (6, .cells (bytes (rootS lv)) 26)]) rfl
    (.cons ⟨rfl, hl.ro⟩ (.cons ⟨rfl, hs.ro⟩ (.cons ⟨rfl, hx.ro⟩ (.cons ⟨rfl, .cells (hrv _ rfl rfl rfl rfl rfl)⟩ (.cons ⟨rfl, .cells (RV.all bytes_c2)⟩ .nil))))) .nil ?_
  refine pieceS hm pCall_sound (callO_sound (mr13 _ _ _ _ _)) 0 hre rfl ⟨⟨Mf.lvc h rfl rfl rfl m.rest_len, by rw [hlv]; omega, by rw [hlv]⟩, trivial⟩ rfl 8 [(5, 5), (6, 6), (7, 7)] (os2 := [(0, o0), (1, o1), (2, o2), (5, .cells m.all 33), (6, .cells (bytes (rootS lv)) 26), (7, .cells (bytes (rootS lv)) 26)]) rfl
    (.cons ⟨rfl, hl.ro⟩ (.cons ⟨rfl, hs.ro⟩ (.cons ⟨rfl, hx.ro⟩ (.cons ⟨rfl, .cells (hrv _ rfl rfl rfl rfl rfl)⟩ (.cons ⟨rfl, .cells (RV.all bytes_c2)⟩ (.cons ⟨rfl, .cells (RV.all bytes_c2)⟩ .nil)))))) .nil ?_
  refine pieceF hm pCall_sound (oo4_sound h9 _ _ _ _ _) hrf ⟨trivial, hneq, ⟨sliC_self hlv32, sliC_self hlv32, by omega⟩, ⟨Mf.lvc h rfl rfl rfl m.rest_len, hlv.symm⟩, rfl, ⟨Mf.lvc h rfl rfl rfl m.rest_len, hlv.symm⟩, trivial⟩ ?_
  intro e T H he hr hn hg
  cases tag1 he
  exact ⟨.inr rfl, rfl, _, hr, rfl, keep5 (by rw [hn]; show 5 ≤ 10; omega) (hg (0, _) (.head _)) (hg (1, _) (.tail _ (.head _))) (hg (2, _) (.tail _ (.tail _ (.head _)))) (hg (3, _) (.tail _ (.tail _ (.tail _ (.head _))))) (hg (4, _) (.tail _ (.tail _ (.tail _ (.tail _ (.head _))))))⟩
end Go.Abs

