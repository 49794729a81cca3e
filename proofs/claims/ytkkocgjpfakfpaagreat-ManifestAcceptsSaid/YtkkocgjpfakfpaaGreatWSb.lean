/- For every manifest, seed and index the statements ManifestSigns and ManifestAccepts of law 40 hold, with no condition. -/
import Derived.Test.YtkkocgjpfakfpaaGreatWSa
set_option linter.unusedSimpArgs false
set_option linter.unusedVariables false
namespace Go.Abs
open Go.Proofs
set_option maxRecDepth 1000000

theorem ob52 {σ : List (Nat × Nat)} {s : List Int} {a b : Nat} {p1 p2 o1 o2 : AObj} (h0 : sg 0 σ 0 = some 0) (h1 : sg 0 σ 1 = some a) (h2 : sg 0 σ 2 = some b) (r1 : RO (sg 0 σ) p1 o1) (r2 : RO (sg 0 σ) p2 o2) :
    F2 (fun (p q : Nat × AObj) => sg 0 σ q.1 = some p.1 ∧ RO (sg 0 σ) p.2 q.2) (([0,a,b] : List Nat).zip [.cells (bytes s) 26, p1, p2]) [(0, .cells (bytes s) 26), (1, o1), (2, o2)] :=
  .cons ⟨h0, .cells (RV.all bytes_c2)⟩ (.cons ⟨h1, r1⟩ (.cons ⟨h2, r2⟩ .nil))
/-- The rows so far: none at first. -/
def rowV (b : Nat) (ds : List (List Int)) : Value := match ds with
  | [] => nilS
  | d :: l => sl b (d :: l).length
def rowO (ds : List (List Int)) : AObj := match ds with
  | [] => .dead
  | d :: l => grD (d :: l)
theorem rowV_cons {b : Nat} {ds : List (List Int)} (h : ds ≠ []) : rowV b ds = sl b ds.length := by cases ds with | nil => exact absurd rfl h | cons d l => rfl
theorem rowO_cons {ds : List (List Int)} (h : ds ≠ []) : rowO ds = grD ds := by cases ds with | nil => exact absurd rfl h | cons d l => rfl
theorem rowO_RO {σ : Nat → Option Nat} {ds : List (List Int)} : RO σ (rowO ds) (rowO ds) := by cases ds with | nil => exact .dead _ | cons d l => exact RO.grD
theorem one_flat (d : List Int) : bytes d = flatD [d] := by simp [flatD]

theorem in52 {s : List Int} (hs : s.length = 32) {i : Nat} (hi : i < 4) {acc : List (List Int)} {Q : APost}
    (hQ : Awn Tryz.prog 0 (codeOf Tryz.f52 [1,1,0,1,0,0,1,0,0,1,1]) Q (T52b (rowV 2 acc) (sl 1 35) (.bool false) i 35) (H52 (bytes s) (grD (endsS s i)) (rowO acc)) []) :
    Awn Tryz.prog 0 (codeOf Tryz.f52 [1,1,0,1,0,0,1,0,0,1]) Q (mkT 29 [(1, pt 0), (2, nilS), (3, rowV 2 acc), (4, i64 (i : Int)), (5, nilS)] jX) (H52 (bytes s) .dead (rowO acc)) [] := by
  refine awn_seq (x := codeOf Tryz.f52 [1,1,0,1,0,0,1,0,0,1,0]) (y := codeOf Tryz.f52 [1,1,0,1,0,0,1,0,0,1,1]) ?_
  refine pieceT hm pCall_sound noOO_sound 0 (r52e _ i _) rfl trivial rfl ?_
  refine awn_block (c := codeOf Tryz.f52 [1,1,0,1,0,0,1,0,0,1,0,1,0]) (awn_loop (c := codeOf Tryz.f52 [1,1,0,1,0,0,1,0,0,1,0,1,0,0])
    (fun q T H D => ∃ j, j + q = 35 ∧ T = T52j (rowV 2 acc) (rowV 1 ((endsS s i).take j)) i j ∧ H = H52 (bytes s) (rowO ((endsS s i).take j)) (rowO acc) ∧ D = [])
    35 ⟨_, _, _, .refl _ _ _ _ _, 0, by omega, rfl, rfl, rfl⟩ ?_)
  rintro q T H D ⟨j, hq, rfl, rfl, rfl⟩
  refine awn_seq (x := codeOf Tryz.f52 [1,1,0,1,0,0,1,0,0,1,0,1,0,0,0]) (y := codeOf Tryz.f52 [1,1,0,1,0,0,1,0,0,1,0,1,0,0,1]) ?_
  refine pieceT hm pCall_sound noOO_sound 0 (r52f _ _ i j _) rfl trivial rfl ?_
  refine awn_cond (c := .tmp 12) (b := decide ((j : Int) < 35)) rfl rfl ?_
  have hel := endsS_len s i
  cases q with
  | zero =>
    rw [decide_eq_false (by omega)]
    refine awn_exit ?_
    have hj : j = 35 := by omega
    subst hj
    have e : (endsS s i).take 35 = endsS s i := List.take_of_length_le (by omega)
    have hne : endsS s i ≠ [] := fun h => by rw [h] at hel; cases hel
    rw [e, rowV_cons hne, rowO_cons hne, hel]
    exact hQ
  | succ q =>
    rw [decide_eq_true (by omega)]
    refine awn_skip ?_
    have hx := begS_len s i j
    have hy := lnkS_len 15 hx
    have hat := endsS_at (s := s) (i := i) (c := j) (by omega)
    have ht := take_snoc hat
    have ht32 := take_32 (endsS_32 (s := s) (i := i)) j
    have hw := wrap_i1 (i := j) (by omega)
    have hC : C52 (fn s) (fn (begS s i j)) (fn (lnkS 15 (begS s i j))) i j := by
      refine ⟨?_, ?_, trivial⟩
      · rw [show dgf (fn (begS s i j)) = begS s i j from dgf_of hx, show dgf (fn (lnkS 15 (begS s i j))) = lnkS 15 (begS s i j) from dgf_of hy]
        exact ⟨hx, rfl, rfl, by omega, rfl⟩
      · rw [show dgf (fn (begS s i j)) = begS s i j from dgf_of hx, show dgf (fn s) = s from dgf_of hs]
        exact ⟨hs, rfl, rfl, rfl, by omega, by omega, rfl⟩
    have hva : ∀ σ : List (Nat × Nat), sg 0 σ 2 = some 2 → RV (sg 0 σ) (rowV 2 acc) (rowV 2 acc) := fun σ h2 => by
      cases acc with
      | nil => exact .closed rfl
      | cons d l => exact .slice h2
    have hfs : dgf (fn s) = s := dgf_of hs
    have hfy : dgf (fn (lnkS 15 (begS s i j))) = lnkS 15 (begS s i j) := dgf_of hy
    generalize hE : (endsS s i).take j = ds at *
    have hdl : ds.length = j := by rw [← hE, List.length_take]; omega
    have fin : ∀ T H D, Nrm Tryz.prog 0 T H D (T52j (rowV 2 acc) (sl 1 (j + 1)) i (j + 1)) (H52 (bytes s) (grD (ds ++ [lnkS 15 (begS s i j)])) (rowO acc)) [] → ∃ m, m < q + 1 ∧ ∃ T2 H2 D2, Nrm Tryz.prog 0 T H D T2 H2 D2 ∧ ∃ j, j + m = 35 ∧ T2 = T52j (rowV 2 acc) (rowV 1 ((endsS s i).take j)) i j ∧ H2 = H52 (bytes s) (rowO ((endsS s i).take j)) (rowO acc) ∧ D2 = [] := by
      intro T H D hN
      refine ⟨q, by omega, _, _, _, hN, j + 1, by omega, ?_, ?_, rfl⟩
      · rw [ht, rowV_cons (b := 1) (ds := ds ++ [lnkS 15 (begS s i j)]) (by simp), List.length_append, hdl]; rfl
      · rw [ht, rowO_cons (ds := ds ++ [lnkS 15 (begS s i j)]) (by simp)]
    cases ds with
    | nil =>
      have hj0 : j = 0 := by simpa using hdl.symm
      subst hj0
      have hr := r52g (rowV 2 acc) (.bool true) i 0 (fn s) (fn (begS s i 0)) (fn (lnkS 15 (begS s i 0))) .dead (rowO acc)
      rw [hfs, hfy, cw, hw, one_flat (lnkS 15 (begS s i 0))] at hr
      refine pieceEX pCall_sound (oo52_sound _ _ _ _ _) hr hC rfl 3 [(0, 0), (1, 4), (2, 2)] (k2 := [(1, pt 0), (2, nilS), (3, rowV 2 acc), (4, i64 (i : Int)), (5, sl 1 1), (6, i64 ((0 + 1 : Nat) : Int))]) rfl
        (.cons ⟨rfl, .ptr rfl⟩ (.cons ⟨rfl, .closed rfl⟩ (.cons ⟨rfl, hva _ rfl⟩ (.cons ⟨rfl, .closed rfl⟩ (.cons ⟨rfl, .slice rfl⟩ (.cons ⟨rfl, .closed rfl⟩ .nil)))))) (ob52 rfl rfl rfl (RO.grD (ds := [lnkS 15 (begS s i 0)])) rowO_RO) .nil ?_
      intro T H D hN
      exact fin T H D hN
    | cons d l =>
      have hr := r52h (rowV 2 acc) (.bool true) i j (d :: l).length (fn s) (fn (begS s i j)) (fn (lnkS 15 (begS s i j))) (flatD (d :: l)) (rowO acc)
      have hap := appD' hy ht32 (by omega)
      rw [hfs, hfy, cw, hw, take_flatD ht32] at hr
      refine pieceEX pCall_sound (oo52_sound _ _ _ _ _) hr ⟨hap, hC⟩ rfl 3 [(0, 0), (1, 4), (2, 2)] (k2 := [(1, pt 0), (2, nilS), (3, rowV 2 acc), (4, i64 (i : Int)), (5, sl 1 ((d :: l).length + 1)), (6, i64 ((j + 1 : Nat) : Int))]) rfl
        (.cons ⟨rfl, .ptr rfl⟩ (.cons ⟨rfl, .closed rfl⟩ (.cons ⟨rfl, hva _ rfl⟩ (.cons ⟨rfl, .closed rfl⟩ (.cons ⟨rfl, .slice rfl⟩ (.cons ⟨rfl, .closed rfl⟩ .nil)))))) (ob52 rfl rfl rfl (RO.grD (ds := d :: l ++ [lnkS 15 (begS s i j)])) rowO_RO) .nil ?_
      intro T H D hN
      rw [hdl] at hN
      exact fin T H D hN
theorem Nrm.ext {P : Program} {n : Nat} {T : List Value} {H H2 : Heap} {D : Defs} (h1 : H.next ≤ H2.next) (h2 : ∀ x, H2.get x = H.get x) : Nrm P n T H D T H2 D := fun _ E _ _ hS => ⟨E, .refl n E, ⟨hS.heap.ext h1 h2, hS.tmps, hS.defs⟩⟩
theorem nrm52 (s : List Int) : Nrm Tryz.prog 0 (mkT 29 [(1, pt 0), (2, nilS), (3, nilS), (4, i64 ((0 : Nat) : Int))] jX) (mkH 3 [(0, .cells (bytes s) 26)] []) [] (T52 nilS 0) (H52 (bytes s) .dead .dead) [] :=
  Nrm.ext (Nat.le_refl _) fun x => by
    simp only [H52, mkH, Heap.get, List.append_nil, look_cons]
    repeat' split
    all_goals rfl
theorem does52 (s : List Int) (hs : s.length = 32) : Does Tryz.prog 52 [dig s] ⟨0, []⟩ (sl 0 4) ((⟨0, []⟩ : Heap).push (grD (leavesS s))) := by
  refine new_of_awp Tryz.func52 (c := codeOf Tryz.f52 []) rfl flatD_c2 (awp_of_awn (n := 0) ?_ (Nat.le_refl _))
  have hra := r52a (fn s)
  rw [show dgf (fn s) = s from dgf_of hs] at hra
  refine pieceSX pCall_sound noOO_sound 1 hra rfl trivial rfl 3 [(0, 0)] (k2 := [(1, pt 0), (2, nilS), (3, nilS)]) (os2 := [(0, .cells (bytes s) 26)]) rfl (.cons ⟨rfl, .ptr rfl⟩ (.cons ⟨rfl, .closed rfl⟩ (.cons ⟨rfl, .closed rfl⟩ .nil))) (.cons ⟨rfl, .cells (RV.all bytes_c2)⟩ .nil) .nil ?_
  refine awn_seq (x := codeOf Tryz.f52 [1,1,0]) (y := codeOf Tryz.f52 [1,1,1]) ?_
  refine pieceT hm pCall_sound noOO_sound 0 (r52b _ _) rfl trivial rfl ?_
  have hll := leavesS_len s
  refine awn_block (c := codeOf Tryz.f52 [1,1,0,1,0]) (awn_loop (c := codeOf Tryz.f52 [1,1,0,1,0,0])
    (fun q T H D => ∃ i, i + q = 4 ∧ T = T52 (rowV 2 ((leavesS s).take i)) i ∧ H = H52 (bytes s) .dead (rowO ((leavesS s).take i)) ∧ D = [])
    4 ⟨_, _, _, nrm52 s, 0, by omega, rfl, rfl, rfl⟩ ?_)
  rintro q T H D ⟨i, hq, rfl, rfl, rfl⟩
  refine awn_seq (x := codeOf Tryz.f52 [1,1,0,1,0,0,0]) (y := codeOf Tryz.f52 [1,1,0,1,0,0,1]) ?_
  refine pieceT hm pCall_sound noOO_sound 0 (r52c _ i _) rfl trivial rfl ?_
  refine awn_cond (c := .tmp 8) (b := decide ((i : Int) < 4)) rfl rfl ?_
  cases q with
  | zero =>
    rw [decide_eq_false (by omega)]
    refine awn_exit ?_
    have hi : i = 4 := by omega
    subst hi
    have e : (leavesS s).take 4 = leavesS s := List.take_of_length_le (by omega)
    have hne : leavesS s ≠ [] := fun h => by rw [h] at hll; cases hll
    rw [e, rowV_cons hne, rowO_cons hne, hll]
    refine pieceR2 pCall_sound noOO_sound (r52l _ _ 4 _) trivial ?_
    intro T' hres
    exact ⟨.inr rfl, rfl, _, hres, ⟨2, rfl, Nat.zero_le _, rfl⟩, keep0 _⟩
  | succ q =>
    rw [decide_eq_true (by omega)]
    refine awn_skip ?_
    have hi4 : i < 4 := by omega
    refine awn_seq (x := codeOf Tryz.f52 [1,1,0,1,0,0,1,0]) (y := codeOf Tryz.f52 [1,1,0,1,0,0,1,1]) ?_
    refine awn_block (c := codeOf Tryz.f52 [1,1,0,1,0,0,1,0,0]) ?_
    refine pieceT hm pCall_sound noOO_sound 0 (r52d _ _ i _) rfl trivial rfl ?_
    refine in52 hs hi4 ?_
    have hy := sleafS_len (endsS s i)
    have hfs : dgf (fn s) = s := dgf_of hs
    have hfy : dgf (fn (sleafS (endsS s i))) = sleafS (endsS s i) := dgf_of hy
    have ht := take_snoc (leavesS_at (s := s) hi4)
    have ht32 := take_32 (leavesS_32 (s := s)) i
    have hw := wrap_i1 (i := i) (by omega)
    have hse := sliC_self (ls := endsS s i) endsS_32
    rw [endsS_len] at hse
    have hE : E52 (endsS s i) (fn (sleafS (endsS s i))) (flatD (endsS s i)) := ⟨⟨hse, rfl, hfy⟩, trivial⟩
    generalize hA : (leavesS s).take i = ds at *
    have hdl : ds.length = i := by rw [← hA, List.length_take]; omega
    have fin : ∀ T H D, Nrm Tryz.prog 0 T H D (T52 (sl 2 (i + 1)) (i + 1)) (H52 (bytes s) .dead (grD (ds ++ [sleafS (endsS s i)]))) [] → ∃ m, m < q + 1 ∧ ∃ T2 H2 D2, Nrm Tryz.prog 0 T H D T2 H2 D2 ∧ ∃ i, i + m = 4 ∧ T2 = T52 (rowV 2 ((leavesS s).take i)) i ∧ H2 = H52 (bytes s) .dead (rowO ((leavesS s).take i)) ∧ D2 = [] := by
      intro T H D hN
      refine ⟨q, by omega, _, _, _, hN, i + 1, by omega, ?_, ?_, rfl⟩
      · rw [ht, rowV_cons (b := 2) (ds := ds ++ [sleafS (endsS s i)]) (by simp), List.length_append, hdl]; rfl
      · rw [ht, rowO_cons (ds := ds ++ [sleafS (endsS s i)]) (by simp)]
    have hk := r52k (i + 1) i (bytes s) .dead (grD (ds ++ [sleafS (endsS s i)]))
    rw [cw, hw] at hk
    have stepK : ∀ (T : List Value) (H : Heap) (D : Defs) (Q : APost), (∀ T H D, Nrm Tryz.prog 0 T H D (T52 (sl 2 (i + 1)) (i + 1)) (H52 (bytes s) .dead (grD (ds ++ [sleafS (endsS s i)]))) [] → Q .normal T H D) → Nrm Tryz.prog 0 T H D (T52 (sl 2 (i + 1)) i) (H52 (bytes s) .dead (grD (ds ++ [sleafS (endsS s i)]))) [] → Awn Tryz.prog 0 (codeOf Tryz.f52 [1,1,0,1,0,0,1,1]) Q T H D := fun T H D Q hQ hN => by
      refine awn_nrm hN ?_
      refine pieceEX pCall_sound noOO_sound hk trivial rfl 3 [(0, 0), (1, 1), (2, 2)] (k2 := [(1, pt 0), (2, nilS), (3, sl 2 (i + 1)), (4, i64 ((i + 1 : Nat) : Int))]) rfl
        (.cons ⟨rfl, .ptr rfl⟩ (.cons ⟨rfl, .closed rfl⟩ (.cons ⟨rfl, .slice rfl⟩ (.cons ⟨rfl, .closed rfl⟩ .nil)))) (ob52 rfl rfl rfl (.dead _) RO.grD) .nil ?_
      exact hQ
    cases ds with
    | nil =>
      have hi0 : i = 0 := by simpa using hdl.symm
      subst hi0
      have hr := r52i 0 35 (.bool false) (fn s) (fn (sleafS (endsS s 0))) (endsS s 0) (flatD (endsS s 0)) .dead
      rw [hfs, hfy, one_flat (sleafS (endsS s 0))] at hr
      refine pieceEX pCall_sound (oo52b_sound _ _) hr hE rfl 3 [(0, 0), (1, 1), (2, 4)] (k2 := [(1, pt 0), (2, nilS), (3, sl 2 1), (4, i64 ((0 : Nat) : Int))]) rfl
        (.cons ⟨rfl, .ptr rfl⟩ (.cons ⟨rfl, .closed rfl⟩ (.cons ⟨rfl, .slice rfl⟩ (.cons ⟨rfl, .closed rfl⟩ .nil)))) (ob52 rfl rfl rfl (.dead _) (RO.grD (ds := [sleafS (endsS s 0)]))) .nil ?_
      intro T H D hN
      exact stepK T H D _ fin hN
    | cons d l =>
      have hr := r52j i 35 (d :: l).length (.bool false) (fn s) (fn (sleafS (endsS s i))) (endsS s i) (flatD (endsS s i)) (flatD (d :: l))
      have hap := appD' hy ht32 (by omega)
      rw [hfs, hfy, take_flatD ht32] at hr
      refine pieceEX pCall_sound (oo52b_sound _ _) hr ⟨hap, hE⟩ rfl 3 [(0, 0), (1, 1), (2, 4)] (k2 := [(1, pt 0), (2, nilS), (3, sl 2 ((d :: l).length + 1)), (4, i64 (i : Int))]) rfl
        (.cons ⟨rfl, .ptr rfl⟩ (.cons ⟨rfl, .closed rfl⟩ (.cons ⟨rfl, .slice rfl⟩ (.cons ⟨rfl, .closed rfl⟩ .nil)))) (ob52 rfl rfl rfl (.dead _) (RO.grD (ds := d :: l ++ [sleafS (endsS s i)]))) .nil ?_
      intro T H D hN
      rw [hdl] at hN
      exact stepK T H D _ fin hN
/-- Leaves of a key, by contract. -/
def ksG (s : List Int) (lv : List (List Int)) : List Value → Heap → Option CallR := fun args H => match args with
  | [v] => some (.eff (sl H.next 4) (H.push (grD lv)) (s.length = 32 ∧ v = dig s ∧ lv = leavesS s))
  | _ => none
theorem ks60 (s : List Int) (lv : List (List Int)) : SoundC Tryz.prog (oneC 60 (ksG s lv)) := oneC_sound fun args H r h => by
  unfold ksG at h
  split at h
  case h_2 => cases h
  cases h
  rintro ⟨h1, rfl, rfl⟩
  exact frame_new (does60 s h1) rfl flatD_c2 (imp_closed H (digs_c2 (l := [s])))
theorem ks52 (s : List Int) (lv : List (List Int)) : SoundC Tryz.prog (oneC 52 (ksG s lv)) := oneC_sound fun args H r h => by
  unfold ksG at h
  split at h
  case h_2 => cases h
  cases h
  rintro ⟨h1, rfl, rfl⟩
  exact frame_new (does52 s h1) rfl flatD_c2 (imp_closed H (digs_c2 (l := [s])))
end Go.Abs

namespace Go.Abs
open Go.Proofs
set_option maxRecDepth 1000000

/-- The public half of a key. -/
def pubS (s : List Int) : List Int := rootS (leavesS s)
theorem pubS_len (s : List Int) : (pubS s).length = 32 := rootS_len _
noncomputable def oo26 (k1 k2 : Nat) (s x : Nat → Int) (lv : List (List Int)) : OpO := orO (callO Tryz.prog (oneC k1 (ksG (dgf s) lv))) (callO Tryz.prog (oneC k2 (rtG lv (dgf x))))
theorem r26 (s x : Nat → Int) (lv : List (List Int)) : (ex3 Tryz.prog pCall (oo26 60 38 s x lv) 60 (codeOf Tryz.f26 []) ⟨⟨[dig (dgf s)] ++ List.replicate 10 undef, ⟨0, []⟩, []⟩, True⟩).map (fin3 Tryz.prog Tryz.f26 [])
  = some (⟨1, some (dig (dgf x)), 3, [], [(59, [pt 1])]⟩, (SliC lv 4 0 (flatD lv) ∧ 1 ≤ 4 ∧ 4 ≤ 63 ∧ dgf x = rootS lv) ∧ ((dgf s).length = 32 ∧ dig (dgf s) = dig (dgf s) ∧ lv = leavesS (dgf s)) ∧ True) := by kernel_rfl
theorem r22 (s x : Nat → Int) (lv : List (List Int)) : (ex3 Tryz.prog pCall (oo26 52 39 s x lv) 60 (codeOf Tryz.f22 []) ⟨⟨[dig (dgf s)] ++ List.replicate 11 undef, ⟨0, []⟩, []⟩, True⟩).map (fin3 Tryz.prog Tryz.f22 [])
  = some (⟨1, some (dig (dgf x)), 4, [], []⟩, (SliC lv 4 0 (flatD lv) ∧ 1 ≤ 4 ∧ 4 ≤ 63 ∧ dgf x = rootS lv) ∧ ((dgf s).length = 32 ∧ dig (dgf s) = dig (dgf s) ∧ lv = leavesS (dgf s)) ∧ True) := by kernel_rfl
theorem does26 (s : List Int) (hs : s.length = 32) (H : Heap) : Does Tryz.prog 26 [dig s] H (dig (pubS s)) H := by
  refine Does.closed (H' := ⟨0, []⟩) (val_of_awp Tryz.func26 (c := codeOf Tryz.f26 []) rfl (dig_c2 _) (awp_of_awn (n := 0) ?_ (Nat.le_refl _))) (digs_c2 (l := [s])) (dig_c2 _) H
  have hr := r26 (fn s) (fn (pubS s)) (leavesS s)
  rw [show dgf (fn s) = s from dgf_of hs, show dgf (fn (pubS s)) = pubS s from dgf_of (pubS_len s)] at hr
  have hse := sliC_self (ls := leavesS s) leavesS_32
  rw [leavesS_len] at hse
  refine pieceF hm pCall_sound (orO_sound (callO_sound (ks60 _ _)) (callO_sound (rt38 _ _))) hr ⟨⟨hse, by omega, by omega, rfl⟩, ⟨hs, rfl, rfl⟩, trivial⟩ ?_
  intro e T H he hr hn hg
  cases tag1 he
  exact ⟨.inr rfl, rfl, _, hr, rfl, keep0 _⟩
theorem does22 (s : List Int) (hs : s.length = 32) (H : Heap) : Does Tryz.prog 22 [dig s] H (dig (pubS s)) H := by
  refine Does.closed (H' := ⟨0, []⟩) (val_of_awp Tryz.func22 (c := codeOf Tryz.f22 []) rfl (dig_c2 _) (awp_of_awn (n := 0) ?_ (Nat.le_refl _))) (digs_c2 (l := [s])) (dig_c2 _) H
  have hr := r22 (fn s) (fn (pubS s)) (leavesS s)
  rw [show dgf (fn s) = s from dgf_of hs, show dgf (fn (pubS s)) = pubS s from dgf_of (pubS_len s)] at hr
  have hse := sliC_self (ls := leavesS s) leavesS_32
  rw [leavesS_len] at hse
  refine pieceF hm pCall_sound (orO_sound (callO_sound (ks52 _ _)) (callO_sound (rt39 _ _))) hr ⟨⟨hse, by omega, by omega, rfl⟩, ⟨hs, rfl, rfl⟩, trivial⟩ ?_
  intro e T H he hr hn hg
  cases tag1 he
  exact ⟨.inr rfl, rfl, _, hr, rfl, keep0 _⟩
/-- Public halves by contract. -/
def pbG (s x : List Int) : List Value → Heap → Option CallR := fun args _ => match args with
  | [v] => some (.same (dig x) (s.length = 32 ∧ v = dig s ∧ x = pubS s))
  | _ => none
theorem pb26 (s x : List Int) : SoundC Tryz.prog (oneC 26 (pbG s x)) := oneC_sound fun args H r h => by
  unfold pbG at h
  split at h
  case h_2 => cases h
  cases h
  rintro ⟨h1, rfl, rfl⟩
  exact does26 s h1 H
theorem pb22 (s x : List Int) : SoundC Tryz.prog (oneC 22 (pbG s x)) := oneC_sound fun args H r h => by
  unfold pbG at h
  split at h
  case h_2 => cases h
  cases h
  rintro ⟨h1, rfl, rfl⟩
  exact does22 s h1 H
end Go.Abs

namespace Go.Abs
open Go.Proofs
set_option maxRecDepth 1000000

-- the digits, as the program reckons them
abbrev w64 (n : Int) : Int := IntKind.i64.wrap n
def and15 (n : Int) : Int := w64 (((BitVec.ofInt IntKind.i64.bits n &&& BitVec.ofInt IntKind.i64.bits 15).toNat : Nat) : Int)
def shE (n : Int) (k : Int) : Int := n.fdiv (2 ^ min k.toNat IntKind.i64.bits)
def hiE (x : Int) : Int := and15 (shE (w64 x) 4)
def loE (x : Int) : Int := and15 (w64 x)
def d32 (x : Nat → Int) : List Int := (List.range 16).flatMap fun i => [hiE (x i), loE (x i)]
def chE (x : Nat → Int) : Int := (d32 x).foldl (fun c d => w64 (c + w64 (15 - d))) 0
def digE (x : Nat → Int) : List Int := d32 x ++ [and15 (shE (chE x) 8), and15 (shE (chE x) 4), and15 (shE (chE x) 0)]
def trN : Nat → Prop
  | 0 => True
  | n + 1 => True ∧ trN n
theorem trN_ok : ∀ n, trN n
  | 0 => trivial
  | n + 1 => ⟨trivial, trN_ok n⟩
theorem r87a (cs : List Value) (n : Nat) (x : Nat → Int) : (ex3 Tryz.prog pCall (callO Tryz.prog (oneC 31 (sumF x))) 60 (pre 3 (codeOf Tryz.f87 [])) ⟨⟨[sl 0 n] ++ List.replicate 9 undef, ⟨1, [(0, .ro cs)]⟩, []⟩, True⟩).map (obs3 [2,3,4] [0,1,2,3])
  = some (⟨0, [pt 1, pt 2, pt 3], 10, 4, [.ro cs, .cells [nilS] 59, .cells (bytes (dgf x)) 26, .cells [i64 0] 3], [(137, [pt 1])]⟩, SumC x 390 cs 0 n ∧ True) := by kernel_rfl
noncomputable def oo87 : OpO := callO Tryz.prog (inC Tryz.prog pCall (callO Tryz.prog (inC Tryz.prog pCall noOO 60 [139])) 200 [138])
theorem oo87_sound : SoundO Tryz.prog oo87 := callO_sound (inC_sound hm pCall_sound (callO_sound (inC_sound hm pCall_sound noOO_sound)))
theorem r87b (cs : List Value) (x : Nat → Int) : (ex3 Tryz.prog pCall oo87 60 (codeOf Tryz.f87 [1,1,1,1]) ⟨⟨mkT 10 [(2, pt 1), (3, pt 2), (4, pt 3)] jX, mkH 4 [(0, .ro cs), (1, .cells [nilS] 59), (2, .cells (bytes (dgf x)) 26), (3, .cells [i64 0] 3)] [], [(137, [pt 1])]⟩, True⟩).map (fin3 Tryz.prog Tryz.f87 [0,4])
  = some (⟨1, some (.slice (some ⟨4, 0, none⟩) 35 35), 5, [.ro cs, .cells ((digE x).map (.int .i64)) 3], [(137, [pt 1])]⟩, trN 35 ∧ True) := by kernel_rfl
-- the reference's
def hiR (x : Int) : Int := w64 (IntKind.u8.wrap (x.tdiv 16))
def loR (x : Int) : Int := w64 (x.tmod 16)
def d32R (x : Nat → Int) : List Int := (List.range 16).flatMap fun i => [hiR (x i), loR (x i)]
def chR (x : Nat → Int) : Int := (List.range 16).foldl (fun c i => w64 (w64 (w64 (w64 (c + 15) - hiR (x i)) + 15) - loR (x i))) 0
def digR (x : Nat → Int) : List Int := d32R x ++ [w64 ((chR x).tdiv 256), (w64 ((chR x).tdiv 16)).tmod 16, (chR x).tmod 16]
theorem r92 (cs : List Value) (n : Nat) (x : Nat → Int) : (ex3 Tryz.prog pCall (callO Tryz.prog (oneC 33 (sumF x))) 200 (codeOf Tryz.f92 []) ⟨⟨[sl 0 n] ++ List.replicate 46 undef, ⟨1, [(0, .ro cs)]⟩, []⟩, True⟩).map (fin3 Tryz.prog Tryz.f92 [0,35])
  = some (⟨1, some (sl 35 35), 36, [.ro cs, .grow ((digR x).map (.int .i64)) 3], []⟩, SumC x 390 cs 0 n ∧ True) := by kernel_rfl
end Go.Abs

namespace Go.Abs
open Go.Proofs
set_option maxRecDepth 1000000

-- the digits in plain numbers
theorem hiE_all : ∀ n : Nat, n < 256 → hiE (n : Int) = ((n / 16 : Nat) : Int) := by decide +kernel
theorem loE_all : ∀ n : Nat, n < 256 → loE (n : Int) = ((n % 16 : Nat) : Int) := by decide +kernel
theorem hiR_all : ∀ n : Nat, n < 256 → hiR (n : Int) = ((n / 16 : Nat) : Int) := by decide +kernel
theorem loR_all : ∀ n : Nat, n < 256 → loR (n : Int) = ((n % 16 : Nat) : Int) := by decide +kernel
def dN (y : Nat → Nat) : List Nat := (List.range 16).flatMap fun i => [y i / 16, y i % 16]
def cN (y : Nat → Nat) : Nat := ((dN y).map fun d => 15 - d).sum
def digN (y : Nat → Nat) : List Nat := dN y ++ [cN y / 256, cN y / 16 % 16, cN y % 16]
theorem d32_eq {x : Nat → Int} {y : Nat → Nat} (hx : ∀ i, i < 16 → x i = (y i : Int)) (hy : ∀ i, i < 16 → y i < 256) : d32 x = (dN y).map Int.ofNat ∧ d32R x = (dN y).map Int.ofNat := by
  unfold d32 d32R dN
  rw [List.map_flatMap]
  refine ⟨?_, ?_⟩
  · refine congrArg List.flatten (List.map_congr_left fun i hi => ?_)
    have hi := List.mem_range.1 hi
    rw [hx i hi, hiE_all _ (hy i hi), loE_all _ (hy i hi)]; rfl
  · refine congrArg List.flatten (List.map_congr_left fun i hi => ?_)
    have hi := List.mem_range.1 hi
    rw [hx i hi, hiR_all _ (hy i hi), loR_all _ (hy i hi)]; rfl
theorem fold_sum : ∀ (ds : List Nat) (c : Nat), (∀ d ∈ ds, d ≤ 15) → c + 15 * ds.length ≤ 1000000 → (ds.map Int.ofNat).foldl (fun c d => w64 (c + w64 (15 - d))) (c : Int) = ((c + (ds.map fun d => 15 - d).sum : Nat) : Int)
  | [], c, _, _ => by simp
  | d :: ds, c, h, hb => by
    have hd := h d (List.mem_cons_self ..)
    simp only [List.map_cons, List.foldl_cons, List.sum_cons]
    have e1 : w64 (15 - Int.ofNat d) = ((15 - d : Nat) : Int) := by
      rw [w64, wrapI (by simp; omega) (by simp; omega)]; simp; omega
    have e2 : w64 ((c : Int) + w64 (15 - Int.ofNat d)) = ((c + (15 - d) : Nat) : Int) := by
      rw [e1, w64, wrapI (by omega) (by simp at hb; omega)]; omega
    rw [e2, fold_sum ds (c + (15 - d)) (fun x hx => h x (List.mem_cons_of_mem _ hx)) (by simp at hb; omega)]
    congr 1; omega
theorem dN_le {y : Nat → Nat} (hy : ∀ i, i < 16 → y i < 256) : ∀ d ∈ dN y, d ≤ 15 := by
  intro d hd
  obtain ⟨i, hi, hd⟩ := List.mem_flatMap.1 hd
  have := hy i (List.mem_range.1 hi)
  simp only [List.mem_cons, List.not_mem_nil, or_false] at hd
  rcases hd with rfl | rfl <;> omega
theorem dN_len (y : Nat → Nat) : (dN y).length = 32 := by simp [dN, List.range_succ]
theorem chE_eq {x : Nat → Int} {y : Nat → Nat} (hx : ∀ i, i < 16 → x i = (y i : Int)) (hy : ∀ i, i < 16 → y i < 256) : chE x = (cN y : Int) := by
  have := fold_sum (dN y) 0 (dN_le hy) (by rw [dN_len]; omega)
  rw [chE, (d32_eq hx hy).1]
  simpa [cN] using this
theorem fold_R {x : Nat → Int} {y : Nat → Nat} (hx : ∀ i, i < 16 → x i = (y i : Int)) (hy : ∀ i, i < 16 → y i < 256) : ∀ (is : List Nat) (c : Nat), (∀ i ∈ is, i < 16) → c + 30 * is.length ≤ 1000000 → is.foldl (fun c i => w64 (w64 (w64 (w64 (c + 15) - hiR (x i)) + 15) - loR (x i))) (c : Int) = ((c + (is.map fun i => (15 - y i / 16) + (15 - y i % 16)).sum : Nat) : Int)
  | [], c, _, _ => by simp
  | i :: is, c, h, hb => by
    have hi := h i (List.mem_cons_self ..)
    have h1 := hy i hi
    simp only [List.foldl_cons, List.map_cons, List.sum_cons]
    simp only [List.length_cons] at hb
    have e : w64 (w64 (w64 (w64 ((c : Int) + 15) - hiR (x i)) + 15) - loR (x i)) = ((c + ((15 - y i / 16) + (15 - y i % 16)) : Nat) : Int) := by
      rw [hx i hi, hiR_all _ h1, loR_all _ h1]
      have a1 : w64 ((c : Int) + 15) = (c : Int) + 15 := wrapI (by omega) (by omega)
      have a2 : w64 ((c : Int) + 15 - ((y i / 16 : Nat) : Int)) = (c : Int) + 15 - ((y i / 16 : Nat) : Int) := wrapI (by omega) (by omega)
      have a3 : w64 ((c : Int) + 15 - ((y i / 16 : Nat) : Int) + 15) = (c : Int) + 15 - ((y i / 16 : Nat) : Int) + 15 := wrapI (by omega) (by omega)
      rw [a1, a2, a3, w64, wrapI (by omega) (by omega)]
      omega
    rw [e, fold_R hx hy is _ (fun j hj => h j (List.mem_cons_of_mem _ hj)) (by omega)]
    congr 1; omega
theorem sum_pairs (y : Nat → Nat) : ∀ is : List Nat, ((is.flatMap fun i => [y i / 16, y i % 16]).map fun d => 15 - d).sum = (is.map fun i => (15 - y i / 16) + (15 - y i % 16)).sum
  | [] => rfl
  | i :: is => by
    simp only [List.flatMap_cons, List.map_append, List.sum_append, List.map_cons, List.sum_cons, List.map_nil, List.sum_nil, sum_pairs y is]
    omega
theorem cN_pairs (y : Nat → Nat) : cN y = ((List.range 16).map fun i => (15 - y i / 16) + (15 - y i % 16)).sum := sum_pairs y _
theorem sum_le15 : ∀ ds : List Nat, (ds.map fun d => 15 - d).sum ≤ 15 * ds.length
  | [] => by simp
  | d :: ds => by
    have := sum_le15 ds
    simp only [List.map_cons, List.sum_cons, List.length_cons]
    omega
theorem chR_eq {x : Nat → Int} {y : Nat → Nat} (hx : ∀ i, i < 16 → x i = (y i : Int)) (hy : ∀ i, i < 16 → y i < 256) : chR x = (cN y : Int) := by
  have := fold_R hx hy (List.range 16) 0 (fun i hi => List.mem_range.1 hi) (by simp)
  rw [cN_pairs, chR]
  simpa using this
theorem cN_le (y : Nat → Nat) : cN y ≤ 480 := by
  have := sum_le15 (dN y)
  rw [dN_len] at this
  exact this
theorem and15_all : ∀ n : Nat, n < 512 → and15 (shE (n : Int) 8) = ((n / 256 : Nat) : Int) ∧ and15 (shE (n : Int) 4) = ((n / 16 % 16 : Nat) : Int) ∧ and15 (shE (n : Int) 0) = ((n % 16 : Nat) : Int) := by decide +kernel
theorem quo_all : ∀ n : Nat, n < 512 → w64 ((n : Int).tdiv 256) = ((n / 256 : Nat) : Int) ∧ (w64 ((n : Int).tdiv 16)).tmod 16 = ((n / 16 % 16 : Nat) : Int) ∧ (n : Int).tmod 16 = ((n % 16 : Nat) : Int) := by decide +kernel
theorem digE_eq {x : Nat → Int} {y : Nat → Nat} (hx : ∀ i, i < 16 → x i = (y i : Int)) (hy : ∀ i, i < 16 → y i < 256) : digE x = (digN y).map Int.ofNat := by
  have hc := cN_le y
  obtain ⟨a1, a2, a3⟩ := and15_all (cN y) (by omega)
  rw [digE, chE_eq hx hy, (d32_eq hx hy).1, a1, a2, a3, digN, List.map_append]; rfl
theorem digR_eq {x : Nat → Int} {y : Nat → Nat} (hx : ∀ i, i < 16 → x i = (y i : Int)) (hy : ∀ i, i < 16 → y i < 256) : digR x = (digN y).map Int.ofNat := by
  have hc := cN_le y
  obtain ⟨a1, a2, a3⟩ := quo_all (cN y) (by omega)
  rw [digR, chR_eq hx hy, (d32_eq hx hy).2, a1, a2, a3, digN, List.map_append]; rfl
theorem digN_len (y : Nat → Nat) : (digN y).length = 35 := by simp [digN, dN_len]
theorem digN_le {y : Nat → Nat} (hy : ∀ i, i < 16 → y i < 256) : ∀ d ∈ digN y, d ≤ 15 := by
  intro d hd
  have hc := cN_le y
  rcases List.mem_append.1 hd with hd | hd
  · exact dN_le hy d hd
  · simp only [List.mem_cons, List.not_mem_nil, or_false] at hd
    generalize cN y = c at hd hc
    rcases hd with rfl | rfl | rfl <;> omega
end Go.Abs

