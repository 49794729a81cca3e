/- For every manifest, seed and index the statements ManifestSigns and ManifestAccepts of law 40 hold, with no condition. -/
import Derived.Test.YtkkocgjpfakfpaaGreatWMa
import Derived.Test.YtkkocgjpfakfpaaGreatWCg
set_option linter.unusedSimpArgs false
set_option linter.unusedVariables false
namespace Go.Abs
open Go.Proofs
set_option maxRecDepth 1000000

theorem lw1g {Q : APost} {o0 o1 o2 : AObj} {m : Mf} {ls : List Ln} {ss : List Sr} {xs : List Ct} (h : m.ok o0 o1 o2 ls ss xs) (ds : List (List Int)) (hds : ∀ d ∈ ds, d.length = 32) (hbd : ds.length ≤ 500000)
    (hQ : ∀ T H D, Nrm Tryz.prog 3 T H D (T11 (ds ++ ls.map Ln.leaf).length) (H11 o0 o1 o2 (.cells (m.mc jks) 33) (ds ++ ls.map Ln.leaf)) [] → Q .normal T H D) : Awn Tryz.prog 3 (codeOf Tryz.f11 [1,1,0]) Q (T11 ds.length) (H11 o0 o1 o2 (.cells (m.mc jks) 33) ds) [] := by
  refine pieceT hm pCall_sound noOO_sound 0 (r11R1 _ _) rfl trivial rfl ?_
  refine awn_block (c := codeOf Tryz.f11 [1,1,0,1,0]) (awn_loop (c := codeOf Tryz.f11 [1,1,0,1,0,0])
    (fun k T H D => ∃ i, i + k = ls.length ∧ T = mkT 101 [(1, pt 3), (3, sl 4 (ds ++ (ls.take i).map Ln.leaf).length), (4, i64 i)] jX ∧ H = H11 o0 o1 o2 (.cells (m.mc jks) 33) (ds ++ (ls.take i).map Ln.leaf) ∧ D = [])
    ls.length ⟨_, _, _, .refl _ _ _ _ _, 0, by omega, by simp, by simp [H11, grD], rfl⟩ ?_)
  rintro k T H D ⟨i, hk, rfl, rfl, rfl⟩
  have hn := h.l.n
  have hbl := h.bl
  have hds : ∀ d ∈ ds ++ (ls.take i).map Ln.leaf, d.length = 32 := fun d hd => by
    rcases List.mem_append.1 hd with hd | hd
    · exact hds d hd
    · obtain ⟨l, _, rfl⟩ := List.mem_map.1 hd; exact sumS_len _ _
  have hbd : (ds ++ (ls.take i).map Ln.leaf).length ≤ 1000000 := by simp; omega
  refine awn_seq (x := codeOf Tryz.f11 [1,1,0,1,0,0,0]) (y := codeOf Tryz.f11 [1,1,0,1,0,0,1]) ?_
  refine pieceT hm pCall_sound noOO_sound 0 (r11H1 o0 o1 o2 _ m _ i) rfl trivial rfl ?_
  refine awn_cond (c := .tmp 30) (b := decide ((i : Int) < (m.n1 : Int))) rfl rfl ?_
  cases k with
  | zero =>
    rw [decide_eq_false (by omega)]
    refine awn_exit (hQ _ _ _ ?_)
    have : ls.take i = ls := List.take_of_length_le (by omega)
    rw [show ds ++ ls.map Ln.leaf = ds ++ (ls.take i).map Ln.leaf by rw [this]]
    exact nrm_drop 2
  | succ k =>
    rw [decide_eq_true (by omega)]
    refine awn_skip ?_
    refine rd1 h _ hds hbd i k hk _ ?_
    intro T H D l hi hN
    have htk : ds ++ (ls.take i).map Ln.leaf ++ [l.leaf] = ds ++ (ls.take (i + 1)).map Ln.leaf := by
      rw [List.take_add_one, hi]; simp
    have hlen : (ds ++ (ls.take i).map Ln.leaf).length + 1 = (ds ++ (ls.take (i + 1)).map Ln.leaf).length := by rw [← htk]; exact (snoc_len _ _).symm
    rw [htk, hlen] at hN
    exact ⟨k, by omega, _, _, _, hN, i + 1, by omega, rfl, rfl, rfl⟩

theorem r11a2 (o0 o1 o2 : AObj) (m : Mf) (f : Nat → Int) : (ex3 Tryz.prog pCall (oo11a f) 60 (pre 1 (codeOf Tryz.f11 [])) ⟨⟨[.agg (m.mc jks).toArray] ++ List.replicate 100 undef, ⟨3, [(0, o0), (1, o1), (2, o2)]⟩, []⟩, True⟩).map (obs3 [3,1] [0,1,2,3,6])
  = some (⟨0, [.slice (some ⟨6, 0, none⟩) 1 1, pt 3], 101, 7, [o0, o1, o2, .cells (m.mc jks) 33, .cells (bytes (dgf f)) 26], []⟩,
    SumC f 401 (bytes (vints [m.p, m.d, m.n1, m.n2, m.n3])) 0 (vints [m.p, m.d, m.n1, m.n2, m.n3]).length ∧ True ∧ True) := by kernel_rfl

theorem does11g {o0 o1 o2 : AObj} {m : Mf} {ls : List Ln} {ss : List Sr} {xs : List Ct} (h : m.ok o0 o1 o2 ls ss xs) :
    Does Tryz.prog 11 [.agg (m.mc jks).toArray] ⟨3, [(0, o0), (1, o1), (2, o2)]⟩ (.slice (some ⟨3, 0, none⟩) (leaves m ls ss xs).length capG) ((⟨3, [(0, o0), (1, o1), (2, o2)]⟩ : Heap).push (grD (leaves m ls ss xs))) := by
  refine new_of_awp Tryz.func11 (c := codeOf Tryz.f11 []) rfl flatD_c2 (awp_of_awn (n := 3) ?_ (Nat.le_refl _))
  have hb1 := h.bl
  have hb2 := h.bs
  have hb3 := h.bx
  have hf : dgf (fn (headL m.p m.d m.n1 m.n2 m.n3)) = headL m.p m.d m.n1 m.n2 m.n3 := fn_sum _ _
  refine pieceS hm pCall_sound (oo11a_sound _) 1 (r11a2 o0 o1 o2 m (fn (headL m.p m.d m.n1 m.n2 m.n3))) rfl ⟨sumC_bytes hf (by have := vints_len [m.p, m.d, m.n1, m.n2, m.n3]; simp only [List.length_cons, List.length_nil] at this; omega), trivial, trivial⟩ rfl 5 [(3, 3), (4, 6)]
    (os2 := [(0, o0), (1, o1), (2, o2), (3, .cells (m.mc jks) 33), (4, .cells (bytes (dgf (fn (headL m.p m.d m.n1 m.n2 m.n3)))) 26)]) rfl
    (.cons ⟨rfl, h.l.ro⟩ (.cons ⟨rfl, h.s.ro⟩ (.cons ⟨rfl, h.x.ro⟩ (.cons ⟨rfl, .cells (Mf.rv h rfl rfl rfl)⟩ (.cons ⟨rfl, .cells (RV.all bytes_c2)⟩ .nil))))) .nil ?_
  rw [hf]
  have hcz : Tryz.prog.cellsOf 26 = 32 := by kernel_rfl
  refine awn_nrm (nrm_grow (q := 1) (t := 3) (i := 4) (cs := bytes (headL m.p m.d m.n1 m.n2 m.n3)) (e := 26) rfl (by rw [hcz, bytes_len]; rfl) (by omega)) ?_
  refine awn_nrm (Nrm.mk (os := [(0, o0), (1, o1), (2, o2), (3, .cells (m.mc jks) 33), (5, .grow (bytes (headL m.p m.d m.n1 m.n2 m.n3)) 26)]) (by intro p hp; simp at hp; rcases hp with rfl | rfl | rfl | rfl | rfl <;> rfl) 5 [(3, 3), (4, 5)]
    (os2 := [(0, o0), (1, o1), (2, o2), (3, .cells (m.mc jks) 33), (4, .grow (bytes (headL m.p m.d m.n1 m.n2 m.n3)) 26)]) (D2 := []) rfl (rnT_F2 3 [(3, 3), (4, 5)] _)
    (.cons ⟨rfl, h.l.ro⟩ (.cons ⟨rfl, h.s.ro⟩ (.cons ⟨rfl, h.x.ro⟩ (.cons ⟨rfl, .cells (Mf.rv h rfl rfl rfl)⟩ (.cons ⟨rfl, .grow (RV.all bytes_c2)⟩ .nil))))) .nil) ?_
  refine awn_seq (x := codeOf Tryz.f11 [1,1,0]) (y := codeOf Tryz.f11 [1,1,1]) ?_
  have hfl : bytes (headL m.p m.d m.n1 m.n2 m.n3) = flatD [headL m.p m.d m.n1 m.n2 m.n3] := by simp [flatD]
  rw [hfl]
  refine lw1g h [headL m.p m.d m.n1 m.n2 m.n3] (fun d hd => by rw [List.mem_singleton.1 hd]; exact sumS_len _ _) (by simp) ?_
  intro T H D hN
  refine awn_nrm hN ?_
  refine awn_seq (x := codeOf Tryz.f11 [1,1,1,0]) (y := codeOf Tryz.f11 [1,1,1,1]) ?_
  refine lw2 h _ (fun d hd => ?_) (by simp; omega) ?_
  · simp only [List.mem_append, List.mem_map, List.mem_singleton] at hd
    rcases hd with rfl | ⟨_, _, rfl⟩ <;> exact sumS_len _ _
  intro T H D hN
  refine awn_nrm hN ?_
  refine awn_seq (x := codeOf Tryz.f11 [1,1,1,1,0]) (y := codeOf Tryz.f11 [1,1,1,1,1]) ?_
  refine lw3 h _ (fun d hd => ?_) (by simp; omega) ?_
  · simp only [List.mem_append, List.mem_map, List.mem_singleton] at hd
    rcases hd with (rfl | ⟨_, _, rfl⟩) | ⟨_, _, rfl⟩ <;> exact sumS_len _ _
  intro T H D hN
  refine awn_nrm hN ?_
  refine pieceF hm pCall_sound noOO_sound (r11z o0 o1 o2 _ _ nilS nilS _) trivial ?_
  intro e T H he hr hn hg
  cases tag1 he
  exact ⟨.inr rfl, rfl, _, hr, ⟨4, rfl, by show 3 ≤ 4; omega, hg (4, _) (.tail _ (.tail _ (.tail _ (.head _))))⟩, keep3 (by rw [hn]; show 3 ≤ 5; omega) (hg (0, _) (.head _)) (hg (1, _) (.tail _ (.head _))) (hg (2, _) (.tail _ (.tail _ (.head _))))⟩

end Go.Abs

namespace Go.Abs
open Go.Proofs
set_option maxRecDepth 1000000

/-- The leaves under a name of their own. -/
def lvP (m : Mf) (ls : List Ln) (ss : List Sr) (xs : List Ct) (lv : List (List Int)) : List Value → Heap → Option CallR := fun args H => match args with
  | [v] => some (.eff (sl H.next lv.length) (H.push (grD lv)) (LvC m ls ss xs H v ∧ lv = leaves m ls ss xs))
  | _ => none
theorem lvP10 (m : Mf) (ls : List Ln) (ss : List Sr) (xs : List Ct) (lv : List (List Int)) : SoundC Tryz.prog (oneC 10 (lvP m ls ss xs lv)) := oneC_sound fun args H r h => by
  unfold lvP at h
  split at h
  case h_2 => cases h
  cases h
  rintro ⟨hc, rfl⟩
  obtain ⟨m0, o0, o1, o2, hok, hl, himp⟩ := lv_imp hc
  rw [← hl]
  exact frame_new (does10 hok) rfl flatD_c2 himp
theorem lvP11 (m : Mf) (ls : List Ln) (ss : List Sr) (xs : List Ct) (lv : List (List Int)) : SoundC Tryz.prog (oneC 11 (lvP m ls ss xs lv)) := oneC_sound fun args H r h => by
  unfold lvP at h
  split at h
  case h_2 => cases h
  cases h
  rintro ⟨hc, rfl⟩
  obtain ⟨m0, o0, o1, o2, hok, hl, himp⟩ := lv_imp hc
  rw [← hl]
  exact frame_new (does11g hok) rfl flatD_c2 himp

theorem SL.slh {j : Nat} {a : Option Addr} {n c : Nat} {o : AObj} {k : Nat} {cs : List Value} (hs : SL j a n c o k cs) {H : Heap} (hg : H.get j = o) : SLH H a n c k cs := by
  rcases hs with ⟨h1, h2, h3, _, h5⟩ | ⟨h1, h2, h3, h4, h5⟩
  · exact .inl ⟨h1, h2, h3, h5⟩
  · refine .inr ⟨j, 0, cs, h1, h4, ?_, by rw [List.drop_zero, List.take_length], by omega, h5⟩
    unfold Heap.row
    rw [hg, h3]
theorem Mf.lvc {m : Mf} {o0 o1 o2 : AObj} {ls : List Ln} {ss : List Sr} {xs : List Ct} (h : m.ok o0 o1 o2 ls ss xs) {H : Heap} (g0 : H.get 0 = o0) (g1 : H.get 1 = o1) (g2 : H.get 2 = o2) {rest : List Value} (hr : rest.length = 37) : LvC m ls ss xs H (.agg (m.mc rest).toArray) :=
  ⟨⟨rest, hr, rfl⟩, h.l.slh g0, h.s.slh g1, h.x.slh g2, h.bl, h.bs, h.bx⟩
theorem sliC_self {ls : List (List Int)} (h : ∀ d ∈ ls, d.length = 32) : SliC ls ls.length 0 (flatD ls) :=
  ⟨h, rfl, by rw [flatD_len h]; omega, by rw [List.drop_zero, ← flatD_len h, List.take_length]⟩

noncomputable def oo12 (k1 k2 : Nat) (m : Mf) (ls : List Ln) (ss : List Sr) (xs : List Ct) (lv : List (List Int)) (x : Nat → Int) : OpO := orO (callO Tryz.prog (oneC k1 (lvP m ls ss xs lv))) (callO Tryz.prog (oneC k2 (rtG lv (dgf x))))
theorem r12 (o0 o1 o2 : AObj) (m : Mf) (ls : List Ln) (ss : List Sr) (xs : List Ct) (lv : List (List Int)) (x : Nat → Int) : (ex3 Tryz.prog pCall (oo12 10 38 m ls ss xs lv x) 60 (codeOf Tryz.f12 []) ⟨⟨[.agg (m.mc jks).toArray] ++ List.replicate 9 undef, ⟨3, [(0, o0), (1, o1), (2, o2)]⟩, []⟩, True⟩).map (fin3 Tryz.prog Tryz.f12 [0,1,2])
  = some (⟨1, some (.tuple #[dig (dgf x), i64 0]), 7, [o0, o1, o2], [(37, [pt 4, pt 5])]⟩, (SliC lv lv.length 0 (flatD lv) ∧ 1 ≤ lv.length ∧ lv.length ≤ 63 ∧ dgf x = rootS lv) ∧
    (LvC m ls ss xs ⟨6, [(5, .cells [i64 0] 43), (4, .cells zD 26), (3, .cells (m.mc jks) 33), (0, o0), (1, o1), (2, o2)]⟩ (.agg (m.mc jks).toArray) ∧ lv = leaves m ls ss xs) ∧ True) := by kernel_rfl
theorem r13 (o0 o1 o2 : AObj) (m : Mf) (ls : List Ln) (ss : List Sr) (xs : List Ct) (lv : List (List Int)) (x : Nat → Int) : (ex3 Tryz.prog pCall (oo12 11 39 m ls ss xs lv x) 60 (codeOf Tryz.f13 []) ⟨⟨[.agg (m.mc jks).toArray] ++ List.replicate 8 undef, ⟨3, [(0, o0), (1, o1), (2, o2)]⟩, []⟩, True⟩).map (fin3 Tryz.prog Tryz.f13 [0,1,2])
  = some (⟨1, some (.tuple #[dig (dgf x), i64 0]), 6, [o0, o1, o2], []⟩, (SliC lv lv.length 0 (flatD lv) ∧ 1 ≤ lv.length ∧ lv.length ≤ 63 ∧ dgf x = rootS lv) ∧
    (LvC m ls ss xs ⟨5, [(4, .cells zD 26), (3, .cells (m.mc jks) 33), (0, o0), (1, o1), (2, o2)]⟩ (.agg (m.mc jks).toArray) ∧ lv = leaves m ls ss xs) ∧ True) := by kernel_rfl
theorem rootS_len (ls : List (List Int)) : (rootS ls).length = 32 := sumS_len _ _
theorem does12 {o0 o1 o2 : AObj} {m : Mf} {ls : List Ln} {ss : List Sr} {xs : List Ct} (h : m.ok o0 o1 o2 ls ss xs) (hb : (leaves m ls ss xs).length ≤ 63) :
    Does Tryz.prog 12 [.agg (m.mc jks).toArray] ⟨3, [(0, o0), (1, o1), (2, o2)]⟩ (.tuple #[dig (rootS (leaves m ls ss xs)), i64 0]) ⟨3, [(0, o0), (1, o1), (2, o2)]⟩ := by
  refine val_of_awp Tryz.func12 (c := codeOf Tryz.f12 []) rfl rt_c2 (awp_of_awn (n := 3) ?_ (Nat.le_refl _))
  have hl := leaves_len m ls ss xs
  have hr := r12 o0 o1 o2 m ls ss xs (leaves m ls ss xs) (fn (rootS (leaves m ls ss xs)))
  rw [show dgf (fn (rootS (leaves m ls ss xs))) = rootS (leaves m ls ss xs) from dgf_of (rootS_len _)] at hr
  have so : SoundO Tryz.prog (oo12 10 38 m ls ss xs (leaves m ls ss xs) (fn (rootS (leaves m ls ss xs)))) := orO_sound (callO_sound (lvP10 _ _ _ _ _)) (callO_sound (rt38 _ _))
  refine pieceF hm pCall_sound so hr ⟨⟨sliC_self leaves_32, by omega, hb, rfl⟩, ⟨Mf.lvc h rfl rfl rfl rfl, rfl⟩, trivial⟩ ?_
  intro e T H he hr hn hg
  cases tag1 he
  exact ⟨.inr rfl, rfl, _, hr, rfl, keep3 (by rw [hn]; show 3 ≤ 7; omega) (hg (0, _) (.head _)) (hg (1, _) (.tail _ (.head _))) (hg (2, _) (.tail _ (.tail _ (.head _))))⟩
theorem does13 {o0 o1 o2 : AObj} {m : Mf} {ls : List Ln} {ss : List Sr} {xs : List Ct} (h : m.ok o0 o1 o2 ls ss xs) (hb : (leaves m ls ss xs).length ≤ 63) :
    Does Tryz.prog 13 [.agg (m.mc jks).toArray] ⟨3, [(0, o0), (1, o1), (2, o2)]⟩ (.tuple #[dig (rootS (leaves m ls ss xs)), i64 0]) ⟨3, [(0, o0), (1, o1), (2, o2)]⟩ := by
  refine val_of_awp Tryz.func13 (c := codeOf Tryz.f13 []) rfl rt_c2 (awp_of_awn (n := 3) ?_ (Nat.le_refl _))
  have hl := leaves_len m ls ss xs
  have hr := r13 o0 o1 o2 m ls ss xs (leaves m ls ss xs) (fn (rootS (leaves m ls ss xs)))
  rw [show dgf (fn (rootS (leaves m ls ss xs))) = rootS (leaves m ls ss xs) from dgf_of (rootS_len _)] at hr
  have so : SoundO Tryz.prog (oo12 11 39 m ls ss xs (leaves m ls ss xs) (fn (rootS (leaves m ls ss xs)))) := orO_sound (callO_sound (lvP11 _ _ _ _ _)) (callO_sound (rt39 _ _))
  refine pieceF hm pCall_sound so hr ⟨⟨sliC_self leaves_32, by omega, hb, rfl⟩, ⟨Mf.lvc h rfl rfl rfl rfl, rfl⟩, trivial⟩ ?_
  intro e T H he hr hn hg
  cases tag1 he
  exact ⟨.inr rfl, rfl, _, hr, rfl, keep3 (by rw [hn]; show 3 ≤ 6; omega) (hg (0, _) (.head _)) (hg (1, _) (.tail _ (.head _))) (hg (2, _) (.tail _ (.tail _ (.head _))))⟩

/-- Roots of manifests by contract. -/
def MrC (m : Mf) (ls : List Ln) (ss : List Sr) (xs : List Ct) (x : List Int) (H : Heap) (v : Value) : Prop := LvC m ls ss xs H v ∧ (leaves m ls ss xs).length ≤ 63 ∧ x = rootS (leaves m ls ss xs)
def mrG (m : Mf) (ls : List Ln) (ss : List Sr) (xs : List Ct) (x : List Int) : List Value → Heap → Option CallR := fun args H => match args with
  | [v] => some (.same (.tuple #[dig x, i64 0]) (MrC m ls ss xs x H v))
  | _ => none
theorem mr12 (m : Mf) (ls : List Ln) (ss : List Sr) (xs : List Ct) (x : List Int) : SoundC Tryz.prog (oneC 12 (mrG m ls ss xs x)) := oneC_sound fun args H r h => by
  unfold mrG at h
  split at h
  case h_2 => cases h
  cases h
  rintro ⟨hc, hb, rfl⟩
  obtain ⟨m0, o0, o1, o2, hok, hl, himp⟩ := lv_imp hc
  rw [← hl] at hb ⊢
  exact frame_val (does12 hok hb) rt_c2 himp
theorem mr13 (m : Mf) (ls : List Ln) (ss : List Sr) (xs : List Ct) (x : List Int) : SoundC Tryz.prog (oneC 13 (mrG m ls ss xs x)) := oneC_sound fun args H r h => by
  unfold mrG at h
  split at h
  case h_2 => cases h
  cases h
  rintro ⟨hc, hb, rfl⟩
  obtain ⟨m0, o0, o1, o2, hok, hl, himp⟩ := lv_imp hc
  rw [← hl] at hb ⊢
  exact frame_val (does13 hok hb) rt_c2 himp

-- digests compared
theorem keep2 {o0 o1 : AObj} {H : Heap} (h1 : 2 ≤ H.next) (g0 : H.get 0 = o0) (g1 : H.get 1 = o1) : Keep ⟨2, [(0, o0), (1, o1)]⟩ H := ⟨h1, fun id hid => by
  have : id = 0 ∨ id = 1 := by have : id < 2 := hid; omega
  rcases this with rfl | rfl
  · exact g0
  · exact g1⟩
end Go.Abs

namespace Go.Abs
open Go.Proofs
set_option maxRecDepth 1000000
end Go.Abs

namespace Go.Abs
open Go.Proofs
set_option maxRecDepth 1000000

/-- The end of a law. -/
def EndF (fn : Func) (H0 : Heap) : APost := fun ex T' H' D' => (ex = .normal ∨ ex = .ret) ∧ (D'.all fun d => quietDefer Tryz.prog d.1 && callable Tryz.prog d.1) = true ∧ ∃ u, resA Tryz.prog fn T' H' = some u ∧ u = .bool true ∧ Keep H0 H'
theorem pieceY {fn : Func} {call : CallF} (hO : ∀ f args H v h, call f args H = some (v, h) → Does Tryz.prog f args H v (h.getD H)) {OO : OpO} (hOO : SoundO Tryz.prog OO) {n m : Nat} {c : Code} {T : List Value} {H H0 : Heap} {L : Prop} (h : (ex3 Tryz.prog call OO m c ⟨⟨T, H, []⟩, True⟩).map (fun r => (r.1.tag, resA Tryz.prog fn r.2.T r.2.H, r.2.H, r.2.D, r.2.L)) = some (1, some (.bool true), H, [], L)) (hL : L) (hk : Keep H0 H) :
    Awn Tryz.prog n c (fun e T H D => e = .ret ∧ EndF fn H0 e T H D) T H [] := by
  cases hr : ex3 Tryz.prog call OO m c ⟨⟨T, H, []⟩, True⟩ with
  | none => rw [hr] at h; cases h
  | some r =>
    rw [hr] at h
    simp only [Option.map_some, Option.some.injEq, Prod.mk.injEq] at h
    obtain ⟨h1, h2, h3, h4, h5⟩ := h
    refine awn_of (awp_mono (ex3_sound hm hO hOO m c _ r hr (h5 ▸ hL)).2 ?_)
    rintro e T H D ⟨rfl, rfl, rfl, rfl⟩
    have := tag1 h1
    refine ⟨by rw [this]; rfl, .inr (by rw [this]; rfl), ?_, _, h2, rfl, ?_⟩
    · show (List.all r.2.D _) = true
      rw [h4]; rfl
    · show Keep H0 r.2.H
      rw [h3]; exact hk

end Go.Abs

