/- BackupKeeps of law 31: Keep and Expire of the program return the lists of the specification, for all days, numbers of days and today; no condition. -/
import Derived.Test.YtafcagkhojhbbaaGreatKE1
set_option linter.unusedSimpArgs false
set_option linter.unusedVariables false
namespace Go.Abs
open Go.Proofs
set_option maxRecDepth 1000000
noncomputable def oo8a (b1 b2 : Bool) (K : Int) : OpO := orO (forceO Tryz.prog 17 (.bool b1)) (orO (forceO Tryz.prog 21 (.bool b2)) (hb8 K))
theorem oo8a_sound (b1 b2 : Bool) (K : Int) : SoundO Tryz.prog (oo8a b1 b2 K) := orO_sound forceO_sound (orO_sound forceO_sound (hb8_sound K))
noncomputable def oo8b (b1 b2 b3 : Bool) (d : Int) (v : Value) : OpO := orO (forceO Tryz.prog 34 (.bool b1)) (orO (forceO Tryz.prog 41 (.bool b2)) (orO (forceO Tryz.prog 57 (.bool b3)) (orO (idxO Tryz.prog 31) (orO (idxO Tryz.prog 38) (orO (idxO Tryz.prog 46) (orO (idxO Tryz.prog 62) (orO (ldO Tryz.prog 33 (i64 d)) (orO (ldO Tryz.prog 40 (i64 d)) (orO (ldO Tryz.prog 48 (i64 d)) (orO (ldO Tryz.prog 63 v) (appO Tryz.prog 65)))))))))))
theorem oo8b_sound (b1 b2 b3 : Bool) (d : Int) (v : Value) : SoundO Tryz.prog (oo8b b1 b2 b3 d v) := orO_sound forceO_sound (orO_sound forceO_sound (orO_sound forceO_sound (orO_sound idxO_sound (orO_sound idxO_sound (orO_sound idxO_sound (orO_sound idxO_sound (orO_sound ldO_sound (orO_sound ldO_sound (orO_sound ldO_sound (orO_sound ldO_sound appO_sound))))))))))
abbrev sB' (b c : Bool) : Prop := some (Value.bool b) = some (Value.bool c)
theorem r8a (ds : AObj) (cb : List Value) (o6 o8 : AObj) (o m c : Nat) (K t : Int) : (ex3 Tryz.prog cR (oo8a false false K) 60 (pre 2 (codeOf Tryz.f8 [])) ⟨⟨[.agg mCat.toArray, i64 0, slc 7 o m c, i64 t] ++ List.replicate 63 undef, H3 ds K 9 [(6, o6), (7, .grow cb 46), (8, o8)], []⟩, True⟩).map (obs3 [1,2,3,4,9] [0,1,2,3,4,5,6,7,8,9,11])
  = some (⟨0, [i64 0, slc 7 o m c, i64 t, pt 9, nilS], 67, 11, cObs ds K ++ [o6, .grow cb 46, o8, .cells mCat 42, .dead], []⟩, sB' (decide (t > 1048576)) false ∧ sB' (decide (t < 0)) false ∧ (CC K ∧ True) ∧ True) := by kernel_rfl
abbrev k8 (o m c : Nat) (t : Int) (rv : Value) : List (Nat × Value) := [(1, i64 0), (2, slc 7 o m c), (3, i64 t), (4, pt 9), (9, rv)]
abbrev T8 (o m c : Nat) (t : Int) (rv : Value) (j : Nat) : List Value := mkT 67 (k8 o m c t rv ++ [(10, i64 (j : Int))]) jX'
abbrev T8x (o m c : Nat) (t : Int) (rv : Value) (j : Nat) (x : Value) : List Value := mkT 67 (k8 o m c t rv ++ [(10, i64 (j : Int)), (26, x)]) jX'
abbrev h8 (o6 : AObj) (cb : List Value) (o8 o10 : AObj) : List (Nat × AObj) := [(6, o6), (7, .grow cb 46), (8, o8), (9, .cells mCat 42), (10, o10)]
abbrev H8 (ds : AObj) (K : Int) (o6 : AObj) (cb : List Value) (o8 o10 : AObj) : Heap := mkH 11 (base ds K (h8 o6 cb o8 o10)) []
theorem r8b (o m c : Nat) (H : Heap) (rv : Value) (t : Int) : (ex3 Tryz.prog cR noOO 60 (pre 0 (codeOf Tryz.f8 [1,1,1,0])) ⟨⟨mkT 67 (k8 o m c t rv) jX', H, []⟩, True⟩).map (obsQ [1,2,3,4,9,10])
  = some (⟨0, [i64 0, slc 7 o m c, i64 t, pt 9, rv, i64 ((0 : Nat) : Int)], 67, H, []⟩, True) := by kernel_rfl
theorem r8c (o m c j : Nat) (H : Heap) (rv : Value) (t : Int) : (ex3 Tryz.prog cR noOO 60 (pre 0 (codeOf Tryz.f8 [1,1,1,0,1,0,0,0])) ⟨⟨T8 o m c t rv j, H, []⟩, True⟩).map (obsQ [1,2,3,4,9,10,26])
  = some (⟨0, [i64 0, slc 7 o m c, i64 t, pt 9, rv, i64 (j : Int), .bool (decide ((j : Int) < (m : Int)))], 67, H, []⟩, True) := by kernel_rfl
abbrev LD (cb : List Value) (o m j : Nat) (d : Int) (P : Prop) : Prop := LdC Tryz.prog 3 (some cb) (o + ((j : Int)).toNat * 4 + 0) (i64 d) ∧ ((0 : Int) ≤ (j : Int) ∧ (j : Int) < (m : Int)) ∧ P
abbrev LG (cb : List Value) (o m j : Nat) (d q : Int) (P : Prop) : Prop := LdC Tryz.prog 46 (some cb) (o + ((j : Int)).toNat * 4) (.agg #[i64 d, i64 q, nilS, nilS]) ∧ ((0 : Int) ≤ (j : Int) ∧ (j : Int) < (m : Int)) ∧ P
abbrev v8 (o m c : Nat) (t : Int) (rv : Value) (j : Nat) : List Value := [i64 0, slc 7 o m c, i64 t, pt 9, rv, i64 (IntKind.i64.wrap ((j : Int) + 1))]
theorem r8d (o m c j : Nat) (cb : List Value) (ds : AObj) (o6 o8 o10 : AObj) (x rv : Value) (K t d q : Int) : (ex3 Tryz.prog cR (oo8b false false false d (.agg #[i64 d, i64 q, nilS, nilS])) 60 (codeOf Tryz.f8 [1,1,1,0,1,0,0,1]) ⟨⟨T8x o m c t rv j x, H8 ds K o6 cb o8 o10, []⟩, True⟩).map (obs3 [1,2,3,4,9,10] [0,1,2,3,4,5,6,7,8,9,10])
  = some (⟨0, v8 o m c t rv j, 67, 11, cObs ds K ++ [o6, .grow cb 46, o8, .cells mCat 42, o10], []⟩, sB' (decide (d ≥ 0)) false ∧ LD cb o m j d True) := by kernel_rfl
theorem r8e (o m c j : Nat) (cb : List Value) (ds : AObj) (o6 o8 o10 : AObj) (x rv : Value) (K t d q : Int) : (ex3 Tryz.prog cR (oo8b true false false d (.agg #[i64 d, i64 q, nilS, nilS])) 60 (codeOf Tryz.f8 [1,1,1,0,1,0,0,1]) ⟨⟨T8x o m c t rv j x, H8 ds K o6 cb o8 o10, []⟩, True⟩).map (obs3 [1,2,3,4,9,10] [0,1,2,3,4,5,6,7,8,9,10])
  = some (⟨0, v8 o m c t rv j, 67, 11, cObs ds K ++ [o6, .grow cb 46, o8, .cells mCat 42, o10], []⟩, sB' (decide (d ≤ 1048576)) false ∧ LD cb o m j d (sB' (decide (d ≥ 0)) true ∧ LD cb o m j d True)) := by kernel_rfl
theorem r8f (o m c j : Nat) (cb : List Value) (ds : AObj) (o6 o8 o10 : AObj) (x rv : Value) (K t d q : Int) : (ex3 Tryz.prog cR (oo8b true true false d (.agg #[i64 d, i64 q, nilS, nilS])) 60 (codeOf Tryz.f8 [1,1,1,0,1,0,0,1]) ⟨⟨T8x o m c t rv j x, H8 ds K o6 cb o8 o10, []⟩, True⟩).map (obs3 [1,2,3,4,9,10] [0,1,2,3,4,5,6,7,8,9,10])
  = some (⟨0, v8 o m c t rv j, 67, 11, cObs ds K ++ [o6, .grow cb 46, o8, .cells mCat 42, o10], []⟩, sB' (decide (IntKind.i64.wrap (d + K) > t)) false ∧ LD cb o m j d (sB' (decide (d ≤ 1048576)) true ∧ LD cb o m j d (sB' (decide (d ≥ 0)) true ∧ LD cb o m j d True))) := by kernel_rfl
theorem r8g (o m c j : Nat) (cb : List Value) (ds : AObj) (o6 o8 o10 : AObj) (x : Value) (K t d q : Int) : (ex3 Tryz.prog cR (oo8b true true true d (.agg #[i64 d, i64 q, nilS, nilS])) 60 (codeOf Tryz.f8 [1,1,1,0,1,0,0,1]) ⟨⟨T8x o m c t nilS j x, H8 ds K o6 cb o8 o10, []⟩, True⟩).map (obs3 [1,2,3,4,9,10] [0,1,2,3,4,5,6,7,8,9,12])
  = some (⟨0, v8 o m c t (slc 12 0 1 capG) j, 67, 13, cObs ds K ++ [o6, .grow cb 46, o8, .cells mCat 42, .grow [i64 d, i64 q, nilS, nilS] 46], []⟩, LG cb o m j d q (sB' (decide (IntKind.i64.wrap (d + K) > t)) true ∧ LD cb o m j d (sB' (decide (d ≤ 1048576)) true ∧ LD cb o m j d (sB' (decide (d ≥ 0)) true ∧ LD cb o m j d True)))) := by kernel_rfl
theorem r8h (o m c j u : Nat) (cb : List Value) (ds : AObj) (rs : List Value) (o6 o8 : AObj) (x : Value) (K t d q : Int) : (ex3 Tryz.prog cR (oo8b true true true d (.agg #[i64 d, i64 q, nilS, nilS])) 60 (codeOf Tryz.f8 [1,1,1,0,1,0,0,1]) ⟨⟨T8x o m c t (slc 10 0 u capG) j x, H8 ds K o6 cb o8 (.grow rs 46), []⟩, True⟩).map (obs3 [1,2,3,4,9,10] [0,1,2,3,4,5,6,7,8,9,12])
  = some (⟨0, v8 o m c t (slc 12 0 (u + 1) capG) j, 67, 13, cObs ds K ++ [o6, .grow cb 46, o8, .cells mCat 42, .grow (rs.take (u * (3 + 1)) ++ [i64 d, i64 q, nilS, nilS]) 46], []⟩, AppC 4 3 64 46 46 0 capG u 1 0 rs [i64 d, i64 q, nilS, nilS] ∧ LG cb o m j d q (sB' (decide (IntKind.i64.wrap (d + K) > t)) true ∧ LD cb o m j d (sB' (decide (d ≤ 1048576)) true ∧ LD cb o m j d (sB' (decide (d ≥ 0)) true ∧ LD cb o m j d True)))) := by kernel_rfl
theorem r8i (ds : AObj) (cb : List Value) (o6 o8 o10 : AObj) (o m c j : Nat) (rv x : Value) (K t : Int) : (ex3 Tryz.prog cR noOO 60 (codeOf Tryz.f8 [1,1,1,1]) ⟨⟨T8x o m c t rv j x, H8 ds K o6 cb o8 o10, []⟩, True⟩).map (fin3 Tryz.prog Tryz.f8 [0,1,2,3,4,5,6,7,8,10])
  = some (⟨1, some rv, 11, cObs ds K ++ [o6, .grow cb 46, o8, o10], []⟩, True) := by kernel_rfl

theorem sg9 {s : List (Nat × Nat)} : ∀ j, j < 9 → sg 9 s j = some j := fun j hj => by
  have : Nat.blt j 9 = true := by simpa [Nat.blt_eq] using hj
  simp [sg, this]
theorem agg3 : isAggT Tryz.prog 3 = some false := by kernel_rfl
theorem ld3 {l : List Sn} {j : Nat} {s : Sn} (h : l[j]? = some s) (q : List Value) : LdC Tryz.prog 3 (some (q ++ l.flatMap Sn.b)) (q.length + j * 4 + 0) (i64 s.d) := by
  unfold LdC ldR
  simp only [agg3]
  have h1 := fm_get b4 h
  have hj : j < l.length := (List.getElem?_eq_some_iff.1 h).1
  have h2 : (((l.flatMap Sn.b).drop (j * 4)).take 4)[0]? = some (i64 s.d) := by rw [h1]; rfl
  rw [List.getElem?_take, if_pos (by omega), List.getElem?_drop] at h2
  rw [List.getElem?_append_right (by omega), ← h2]
  congr 1
  omega
abbrev hY (o6 : AObj) (cb : List Value) (o8 : AObj) (os : List Sn) : List (Nat × AObj) := [(6, o6), (7, .grow cb 46), (8, o8), (9, oF os)]
theorem cat9 {s0 : List (Nat × Nat)} (h : sg 9 s0 9 = some 9) : RS (sg 9 s0) (9, .cells mCat 42) (9, .cells mCat 42) :=
  ⟨h, .cells (.cons (.slice (sg9 2 (by omega))) (.cons (.closed rfl) (.cons (.closed rfl) (.cons (.closed rfl) (.cons (.closed rfl) (.cons (.closed rfl) (.cons (.closed rfl) (.cons (.slice (sg9 4 (by omega))) .nil))))))))⟩
theorem does8 {ds : AObj} (hds : ∀ σ, RO σ ds ds) {l : List Sn} {o6 o8 : AObj} (ho6 : ∀ σ, RO σ o6 o6) (ho8 : ∀ σ, RO σ o8 o8) {q : List Value} (hq : ∀ v ∈ q, c2 v = true) {c : Nat} {K t : Int} (hC : CC K) (ht : inD t = true) (hlen : l.length ≤ 8) :
    Does Tryz.prog 8 [.agg mCat.toArray, i64 0, slc 7 q.length l.length c, i64 t] (H3 ds K 9 [(6, o6), (7, .grow (q ++ l.flatMap Sn.b) 46), (8, o8)]) (rvE 9 (l.filter (keepS K t))) (H3 ds K 10 (hY o6 (q ++ l.flatMap Sn.b) o8 (l.filter (keepS K t)))) := by
  have hb7 : ∀ σ, RO σ (.grow (q ++ l.flatMap Sn.b) 46) (.grow (q ++ l.flatMap Sn.b) 46) := fun σ => .grow (F2.app (RV.all hq) (rv_b l))
  simp only [inD, Bool.and_eq_true, decide_eq_true_eq] at ht
  have hct : sB' (decide (t > 1048576)) false ∧ sB' (decide (t < 0)) false ∧ (CC K ∧ True) ∧ True := ⟨by rw [decide_eq_false (by omega)], by rw [decide_eq_false (by omega)], ⟨hC, trivial⟩, trivial⟩
  generalize hcb : q ++ l.flatMap Sn.b = cb at hb7 ⊢
  refine does_of_awpN (X := jX') Tryz.func8 (c := codeOf Tryz.f8 []) rfl (awp_of_awn (n := 9) ?_ (Nat.le_refl _))
  refine pieceS hm cR_sound (oo8a_sound false false K) 2 (r8a ds cb o6 o8 q.length l.length c K t) rfl hct rfl 11 [(9, 9), (10, 11)] (os2 := base ds K (h8 o6 cb o8 (oF []))) (D2 := []) rfl ?_ .nil ?_
  · exact cat_rs (fun j hj => sg9 j (by omega)) hds (.cons ⟨rfl, ho6 _⟩ (.cons ⟨rfl, hb7 _⟩ (.cons ⟨rfl, ho8 _⟩ (.cons (cat9 rfl) (.cons ⟨rfl, .dead _⟩ .nil)))))
  show Awn Tryz.prog 9 (codeOf Tryz.f8 [1,1,1]) _ (mkT 67 (k8 q.length l.length c t nilS) jX') (H8 ds K o6 cb o8 (oF [])) []
  refine awn_seq (x := codeOf Tryz.f8 [1,1,1,0]) (y := codeOf Tryz.f8 [1,1,1,1]) ?_
  refine pieceT hm cR_sound noOO_sound 0 (r8b q.length l.length c _ nilS t) rfl trivial rfl ?_
  refine awn_block (c := codeOf Tryz.f8 [1,1,1,0,1,0]) (awn_loop (c := codeOf Tryz.f8 [1,1,1,0,1,0,0])
    (fun r T H D => ∃ j, j + r = l.length ∧ T = T8 q.length l.length c t (rvE 10 ((l.take j).filter (keepS K t))) j ∧ H = H8 ds K o6 cb o8 (oF ((l.take j).filter (keepS K t))) ∧ D = [])
    l.length ⟨_, _, _, .refl _ _ _ _ _, 0, by omega, rfl, rfl, rfl⟩ ?_)
  rintro r T H D ⟨j, hjr, rfl, rfl, rfl⟩
  refine awn_seq (x := codeOf Tryz.f8 [1,1,1,0,1,0,0,0]) (y := codeOf Tryz.f8 [1,1,1,0,1,0,0,1]) ?_
  refine pieceT hm cR_sound noOO_sound 0 (r8c q.length l.length c j _ _ t) rfl trivial rfl ?_
  refine awn_cond (c := .tmp 26) (b := decide ((j : Int) < (l.length : Int))) rfl rfl ?_
  cases r with
  | zero =>
    rw [decide_eq_false (by omega)]
    refine awn_exit ?_
    have e : l.take j = l := List.take_of_length_le (by omega)
    show Awn Tryz.prog 9 (codeOf Tryz.f8 [1,1,1,1]) _ (T8x q.length l.length c t (rvE 10 ((l.take j).filter (keepS K t))) j _) (H8 ds K o6 cb o8 (oF ((l.take j).filter (keepS K t)))) []
    rw [e]
    refine pieceF hm cR_sound noOO_sound (r8i ds cb o6 o8 _ q.length l.length c j _ _ K t) trivial ?_
    intro e T H he hr _ hg
    refine ⟨.inr (by rw [tag1 he]; rfl), rfl, _, hr, ?_⟩
    refine Nrm.mk (k2 := [(0, rvE 9 (l.filter (keepS K t)))]) hg 10 [(9, 10)] rfl (.cons ⟨rfl, rv_rvE (i := 10) (j := 9) rfl _⟩ .nil) ?_ .nil
    exact cat_rs (fun j hj => sg9 j (by omega)) hds (.cons ⟨rfl, ho6 _⟩ (.cons ⟨rfl, hb7 _⟩ (.cons ⟨rfl, ho8 _⟩ (.cons ⟨rfl, ro_oF _⟩ .nil))))
  | succ r =>
    rw [decide_eq_true (by omega)]
    refine awn_skip ?_
    have hj : j < l.length := by omega
    obtain ⟨s, hs⟩ : ∃ s, l[j]? = some s := ⟨_, List.getElem?_eq_getElem hj⟩
    have hLD : ∀ P : Prop, P → LD cb q.length l.length j s.d P := fun P hP => ⟨by rw [← hcb]; exact ld3 hs q, ⟨by omega, by omega⟩, hP⟩
    have hLG : ∀ P : Prop, P → LG cb q.length l.length j s.d s.q P := fun P hP => ⟨by rw [← hcb]; exact ld46 b4 hs q, ⟨by omega, by omega⟩, hP⟩
    have hw : IntKind.i64.wrap ((j : Int) + 1) = ((j + 1 : Nat) : Int) := wrap_i1 (by omega)
    have efl : (l.take (j + 1)).filter (keepS K t) = (l.take j).filter (keepS K t) ++ (bif keepS K t s then [s] else []) := by
      rw [List.take_add_one, hs, List.filter_append]
      cases hk : keepS K t s <;> simp [List.filter, hk]
    generalize hacc : (l.take j).filter (keepS K t) = acc at efl ⊢
    have hacl : acc.length ≤ 8 := by rw [← hacc]; exact Nat.le_trans (List.length_filter_le ..) (Nat.le_trans (List.length_take_le _ _) (by omega))
    have step : ∀ (acc2 : List Sn), (l.take (j + 1)).filter (keepS K t) = acc2 → ∀ (T : List Value) (H : Heap) (D : Defs), Nrm Tryz.prog 9 T H D (T8 q.length l.length c t (rvE 10 acc2) (j + 1)) (H8 ds K o6 cb o8 (oF acc2)) [] →
        ∃ m, m < r + 1 ∧ ∃ T2 H2 D2, Nrm Tryz.prog 9 T H D T2 H2 D2 ∧ ∃ j', j' + m = l.length ∧ T2 = T8 q.length l.length c t (rvE 10 ((l.take j').filter (keepS K t))) j' ∧ H2 = H8 ds K o6 cb o8 (oF ((l.take j').filter (keepS K t))) ∧ D2 = [] := by
      intro acc2 h2 T H D hN
      exact ⟨r, by omega, _, _, _, hN, j + 1, by omega, by rw [h2], by rw [h2], rfl⟩
    cases hk : keepS K t s with
    | false =>
      have e2 : (l.take (j + 1)).filter (keepS K t) = acc := by rw [efl, hk]; simp
      have ob : F2 (RS (sg 9 [(9, 9), (10, 10)])) ([0,1,2,3,4,5,6,7,8,9,10].zip (cObs ds K ++ [o6, .grow cb 46, o8, .cells mCat 42, oF acc])) (base ds K (h8 o6 cb o8 (oF acc))) :=
        cat_rs (fun j hj => sg9 j (by omega)) hds (.cons ⟨rfl, ho6 _⟩ (.cons ⟨rfl, hb7 _⟩ (.cons ⟨rfl, ho8 _⟩ (.cons (cat9 rfl) (.cons ⟨rfl, ro_oF _⟩ .nil)))))
      have hQ : ∀ T H D, Nrm Tryz.prog 9 T H D (mkT 67 (rnT 9 [(9, 9), (10, 10)] ([1,2,3,4,9,10].zip (v8 q.length l.length c t (rvE 10 acc) j))) jX') (mkH 11 (base ds K (h8 o6 cb o8 (oF acc))) []) [] → Nrm Tryz.prog 9 T H D (T8 q.length l.length c t (rvE 10 acc) (j + 1)) (H8 ds K o6 cb o8 (oF acc)) [] := by
        intro T H D hN
        have : mkT 67 (rnT 9 [(9, 9), (10, 10)] ([1,2,3,4,9,10].zip (v8 q.length l.length c t (rvE 10 acc) j))) jX' = T8 q.length l.length c t (rvE 10 acc) (j + 1) := by
          unfold v8
          rw [hw]
          cases acc <;> rfl
        rw [this] at hN
        exact hN
      by_cases h0 : 0 ≤ s.d
      · by_cases h1 : s.d ≤ 1048576
        · have hgt : decide (IntKind.i64.wrap (s.d + K) > t) = false := by simpa [keepS, inD, h0, h1] using hk
          exact pieceE hm cR_sound (oo8b_sound _ _ _ _ _) (r8f q.length l.length c j cb ds o6 o8 (oF acc) _ (rvE 10 acc) K t s.d s.q) ⟨by rw [hgt], hLD _ ⟨by rw [decide_eq_true h1], hLD _ ⟨by rw [decide_eq_true (show s.d ≥ 0 from h0)], hLD _ trivial⟩⟩⟩ rfl 11 [(9, 9), (10, 10)] rfl ob .nil fun T H D hN => step acc e2 T H D (hQ T H D hN)
        · exact pieceE hm cR_sound (oo8b_sound _ _ _ _ _) (r8e q.length l.length c j cb ds o6 o8 (oF acc) _ (rvE 10 acc) K t s.d s.q) ⟨by rw [decide_eq_false h1], hLD _ ⟨by rw [decide_eq_true (show s.d ≥ 0 from h0)], hLD _ trivial⟩⟩ rfl 11 [(9, 9), (10, 10)] rfl ob .nil fun T H D hN => step acc e2 T H D (hQ T H D hN)
      · exact pieceE hm cR_sound (oo8b_sound _ _ _ _ _) (r8d q.length l.length c j cb ds o6 o8 (oF acc) _ (rvE 10 acc) K t s.d s.q) ⟨by rw [decide_eq_false (show ¬ s.d ≥ 0 from h0)], hLD _ trivial⟩ rfl 11 [(9, 9), (10, 10)] rfl ob .nil fun T H D hN => step acc e2 T H D (hQ T H D hN)
    | true =>
      have e2 : (l.take (j + 1)).filter (keepS K t) = acc ++ [s] := by rw [efl, hk]; rfl
      simp only [keepS, inD, Bool.and_eq_true, decide_eq_true_eq] at hk
      obtain ⟨⟨h0, h1⟩, hgt⟩ := hk
      have hL : sB' (decide (IntKind.i64.wrap (s.d + K) > t)) true ∧ LD cb q.length l.length j s.d (sB' (decide (s.d ≤ 1048576)) true ∧ LD cb q.length l.length j s.d (sB' (decide (s.d ≥ 0)) true ∧ LD cb q.length l.length j s.d True)) :=
        ⟨by rw [decide_eq_true hgt], hLD _ ⟨by rw [decide_eq_true h1], hLD _ ⟨by rw [decide_eq_true (show s.d ≥ 0 from h0)], hLD _ trivial⟩⟩⟩
      have hT : ∀ u, mkT 67 (rnT 9 [(9, 9), (10, 12)] ([1,2,3,4,9,10].zip (v8 q.length l.length c t (slc 12 0 u capG) j))) jX' = T8 q.length l.length c t (slc 10 0 u capG) (j + 1) := by
        intro u
        unfold v8
        rw [hw]; rfl
      cases acc with
      | nil =>
        refine pieceE hm cR_sound (oo8b_sound _ _ _ _ _) (r8g q.length l.length c j cb ds o6 o8 (oF []) _ K t s.d s.q) (hLG _ hL) rfl 11 [(9, 9), (10, 12)] (os2 := base ds K (h8 o6 cb o8 (oF [s]))) rfl ?_ .nil fun T H D hN => step [s] e2 T H D (by rw [hT] at hN; exact hN)
        exact cat_rs (fun j hj => sg9 j (by omega)) hds (.cons ⟨rfl, ho6 _⟩ (.cons ⟨rfl, hb7 _⟩ (.cons ⟨rfl, ho8 _⟩ (.cons (cat9 rfl) (.cons ⟨rfl, .grow (rv_b [s])⟩ .nil)))))
      | cons x acc =>
        have hlen4 : ((x :: acc).flatMap Sn.b).length = (x :: acc).length * 4 := fm_len b4 _
        have e3 : ((x :: acc).flatMap Sn.b).take ((x :: acc).length * (3 + 1)) ++ [i64 s.d, i64 s.q, nilS, nilS] = (x :: acc ++ [s]).flatMap Sn.b := by
          rw [List.take_of_length_le (by omega), List.flatMap_append]; rfl
        have e4 : rvE 10 (x :: acc ++ [s]) = slc 10 0 ((x :: acc).length + 1) capG := by
          show slc 10 0 (x :: acc ++ [s]).length capG = _
          rw [List.length_append]; rfl
        refine pieceE hm cR_sound (oo8b_sound _ _ _ _ _) (r8h q.length l.length c j (x :: acc).length cb ds ((x :: acc).flatMap Sn.b) o6 o8 _ K t s.d s.q) ⟨⟨rfl, by omega, by omega, by omega, rfl, rfl, rfl, by omega, Nat.le_of_ble_eq_true rfl, by intro v hv; simp at hv; rcases hv with rfl | rfl | rfl <;> rfl⟩, hLG _ hL⟩ rfl 11 [(9, 9), (10, 12)] (os2 := base ds K (h8 o6 cb o8 (oF (x :: acc ++ [s])))) rfl ?_ .nil fun T H D hN => step (x :: acc ++ [s]) e2 T H D (by rw [hT, ← e4] at hN; exact hN)
        rw [e3]
        exact cat_rs (fun j hj => sg9 j (by omega)) hds (.cons ⟨rfl, ho6 _⟩ (.cons ⟨rfl, hb7 _⟩ (.cons ⟨rfl, ho8 _⟩ (.cons (cat9 rfl) (.cons ⟨rfl, .grow (rv_b _)⟩ .nil)))))
end Go.Abs

