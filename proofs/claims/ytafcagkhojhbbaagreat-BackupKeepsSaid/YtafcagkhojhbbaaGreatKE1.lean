/- BackupKeeps of law 31: Keep and Expire of the program return the lists of the specification, for all days, numbers of days and today; no condition. -/
import Derived.Test.YtafcagkhojhbbaaGreatKE0
set_option linter.unusedSimpArgs false
set_option linter.unusedVariables false
namespace Go.Abs
open Go.Proofs
set_option maxRecDepth 1000000
theorem wrap_i1 {i : Nat} (h : i ≤ 1000000000) : IntKind.i64.wrap ((i : Int) + 1) = ((i + 1 : Nat) : Int) := by
  simp [IntKind.wrap, IntKind.bits, IntKind.signed]
  omega
def keepS (K t : Int) (s : Sn) : Bool := inD s.d && decide (IntKind.i64.wrap (s.d + K) > t)
def rvE (b : Nat) : List Sn → Value
  | [] => nilS
  | s :: l => slc b 0 (s :: l).length capG
def oE : List Sn → AObj
  | [] => .dead
  | s :: l => .grow ((s :: l).flatMap Sn.a) 46
def oF : List Sn → AObj
  | [] => .dead
  | s :: l => .grow ((s :: l).flatMap Sn.b) 46
theorem rv_rvE {σ : Nat → Option Nat} {i j : Nat} (h : σ j = some i) : ∀ l, RV σ (rvE i l) (rvE j l)
  | [] => .closed rfl
  | s :: l => .slice h
theorem ro_oE {σ : Nat → Option Nat} : ∀ l, RO σ (oE l) (oE l)
  | [] => .dead _
  | s :: l => .grow (rv_a _)
theorem ro_oF {σ : Nat → Option Nat} : ∀ l, RO σ (oF l) (oF l)
  | [] => .dead _
  | s :: l => .grow (rv_b _)
theorem fm_len {f : Sn → List Value} (hf : ∀ s, (f s).length = 4) : ∀ l : List Sn, (l.flatMap f).length = l.length * 4
  | [] => rfl
  | s :: l => by rw [List.flatMap_cons, List.length_append, hf, fm_len hf l, List.length_cons]; omega
theorem fm_get {f : Sn → List Value} (hf : ∀ s, (f s).length = 4) : ∀ {l : List Sn} {j : Nat} {s : Sn}, l[j]? = some s → ((l.flatMap f).drop (j * 4)).take 4 = f s
  | [], j, s, h => by simp at h
  | x :: l, 0, s, h => by
    simp at h; subst h
    rw [List.flatMap_cons, Nat.zero_mul, List.drop_zero, ← hf x, List.take_left']
    rfl
  | x :: l, j + 1, s, h => by
    have h' : l[j]? = some s := by simpa using h
    have e : (j + 1) * 4 = (f x).length + j * 4 := by rw [hf]; omega
    rw [List.flatMap_cons, e, List.drop_append]
    have : (f x).drop ((f x).length + j * 4) = [] := List.drop_eq_nil_of_le (by omega)
    rw [this, List.nil_append, show (f x).length + j * 4 - (f x).length = j * 4 by omega]
    exact fm_get hf h'
theorem a4 (s : Sn) : s.a.length = 4 := rfl
theorem b4 (s : Sn) : s.b.length = 4 := rfl
theorem agg46 : isAggT Tryz.prog 46 = some true := by kernel_rfl
theorem size46 : sizeT Tryz.prog 46 = some 4 := by kernel_rfl
theorem ld46 {f : Sn → List Value} (hf : ∀ s, (f s).length = 4) {l : List Sn} {j : Nat} {s : Sn} (h : l[j]? = some s) (q : List Value) : LdC Tryz.prog 46 (some (q ++ l.flatMap f)) (q.length + j * 4) (.agg (f s).toArray) := by
  have hj : j < l.length := (List.getElem?_eq_some_iff.1 h).1
  refine ldC_agg agg46 size46 ?_ ?_
  · rw [List.length_append, fm_len hf]; omega
  · rw [List.drop_append]
    have : q.drop (q.length + j * 4) = [] := List.drop_eq_nil_of_le (by omega)
    rw [this, List.nil_append, show q.length + j * 4 - q.length = j * 4 by omega]
    exact fm_get hf h

-- Expire of the program
abbrev k7 (m : Nat) (t : Int) : List (Nat × Value) := [(1, i64 0), (3, i64 t), (4, pt 8), (8, pt 9), (21, slc 6 0 m capG), (22, i64 (m : Int))]
abbrev T7 (m : Nat) (t : Int) (j : Nat) : List Value := mkT 50 (k7 m t ++ [(23, i64 (j : Int))]) jX'
abbrev h7 (ca : List Value) (o7 : AObj) (rv : Value) (o10 : AObj) : List (Nat × AObj) := [(6, .grow ca 46), (7, o7), (8, .cells mCat 42), (9, .cells [rv] 43), (10, o10)]
abbrev H7 (ds : AObj) (K : Int) (ca : List Value) (o7 : AObj) (rv : Value) (o10 : AObj) : Heap := mkH 11 (base ds K (h7 ca o7 rv o10)) []
abbrev D7 : Defs := [(18, [pt 9])]
abbrev cObs (ds : AObj) (K : Int) : List AObj := [ds, .cells cCols 25, .cells mTabs 28, .cells cNms 9, .cells (mBks K) 33, .cells mCat 42]
theorem r7n (ds : AObj) (K t : Int) : (ex3 Tryz.prog cR (oo7a true K) 60 (codeOf Tryz.f7 []) ⟨⟨[.agg mCat.toArray, i64 0, nilS, i64 t] ++ List.replicate 46 undef, H3 ds K 8 [], []⟩, True⟩).map (fin3 Tryz.prog Tryz.f7 [0,1,2,3,4,5,8])
  = some (⟨1, some nilS, 11, cObs ds K ++ [.cells mCat 42], [(18, [pt 9])]⟩, inD t = true ∧ (CC K ∧ True) ∧ True) := by kernel_rfl
theorem r7a (ds : AObj) (ca : List Value) (o7 : AObj) (m : Nat) (K t : Int) : (ex3 Tryz.prog cR (oo7a true K) 60 (pre 2 (codeOf Tryz.f7 [])) ⟨⟨[.agg mCat.toArray, i64 0, slc 6 0 m capG, i64 t] ++ List.replicate 46 undef, H3 ds K 8 [(6, .grow ca 46), (7, o7)], []⟩, True⟩).map (obs3 [1,2,3,4,8] [0,1,2,3,4,5,6,7,8,9,11])
  = some (⟨0, [i64 0, slc 6 0 m capG, i64 t, pt 8, pt 9], 50, 11, cObs ds K ++ [.grow ca 46, o7, .cells mCat 42, .cells [nilS] 43, .dead], D7⟩, inD t = true ∧ (CC K ∧ True) ∧ True) := by kernel_rfl
theorem r7b (m : Nat) (t : Int) (H : Heap) : (ex3 Tryz.prog cR noOO 60 (pre 0 (codeOf Tryz.f7 [1,1,1,0])) ⟨⟨mkT 50 [(1, i64 0), (2, slc 6 0 m capG), (3, i64 t), (4, pt 8), (8, pt 9)] jX', H, D7⟩, True⟩).map (obsQ [1,3,4,8,21,22,23])
  = some (⟨0, [i64 0, i64 t, pt 8, pt 9, slc 6 0 m capG, i64 (m : Int), i64 ((0 : Nat) : Int)], 50, H, D7⟩, True) := by kernel_rfl
theorem r7c (m j : Nat) (t : Int) (H : Heap) : (ex3 Tryz.prog cR noOO 60 (pre 0 (codeOf Tryz.f7 [1,1,1,0,1,0,0])) ⟨⟨T7 m t j, H, D7⟩, True⟩).map (obsQ [1,3,4,8,21,22,23,24])
  = some (⟨0, [i64 0, i64 t, pt 8, pt 9, slc 6 0 m capG, i64 (m : Int), i64 (j : Int), .bool (decide ((j : Int) < (m : Int)))], 50, H, D7⟩, True) := by kernel_rfl
abbrev T7x (m : Nat) (t : Int) (j : Nat) (b : Value) : List Value := mkT 50 (k7 m t ++ [(23, i64 (j : Int)), (24, b)]) jX'
abbrev vj (m : Nat) (t : Int) (j : Nat) : List Value := [i64 0, i64 t, pt 8, pt 9, slc 6 0 m capG, i64 (m : Int), i64 (IntKind.i64.wrap ((j : Int) + 1))]
abbrev LA (ca : List Value) (m j : Nat) (d q : Int) : Prop := LdC Tryz.prog 46 (some ca) (0 + ((j : Int)).toNat * 4) (.agg #[i64 d, i64 q, nilS, anonV]) ∧ ((0 : Int) ≤ (j : Int) ∧ (j : Int) < (m : Int)) ∧ True
theorem r7d (ds : AObj) (ca : List Value) (o7 o10 : AObj) (rv x : Value) (m j : Nat) (K t d q : Int) : (ex3 Tryz.prog cR (oo7b false false (.agg #[i64 d, i64 q, nilS, anonV])) 60 (codeOf Tryz.f7 [1,1,1,0,1,0,0,1,1]) ⟨⟨T7x m t j x, H7 ds K ca o7 rv o10, D7⟩, True⟩).map (obs3 [1,3,4,8,21,22,23] [0,1,2,3,4,5,6,7,8,9,10])
  = some (⟨0, vj m t j, 50, 12, cObs ds K ++ [.grow ca 46, o7, .cells mCat 42, .cells [rv] 43, o10], D7⟩, inD d = false ∧ LA ca m j d q) := by kernel_rfl
theorem r7e (ds : AObj) (ca : List Value) (o7 o10 : AObj) (rv x : Value) (m j : Nat) (K t d q : Int) : (ex3 Tryz.prog cR (oo7b true false (.agg #[i64 d, i64 q, nilS, anonV])) 60 (codeOf Tryz.f7 [1,1,1,0,1,0,0,1,1]) ⟨⟨T7x m t j x, H7 ds K ca o7 rv o10, D7⟩, True⟩).map (obs3 [1,3,4,8,21,22,23] [0,1,2,3,4,5,6,7,8,9,10])
  = some (⟨0, vj m t j, 50, 12, cObs ds K ++ [.grow ca 46, o7, .cells mCat 42, .cells [rv] 43, o10], D7⟩, some (Value.bool (decide (IntKind.i64.wrap (d + K) > t))) = some (Value.bool false) ∧ inD d = true ∧ LA ca m j d q) := by kernel_rfl
theorem r7f (ds : AObj) (ca : List Value) (o7 o10 : AObj) (x : Value) (m j : Nat) (K t d q : Int) : (ex3 Tryz.prog cR (oo7b true true (.agg #[i64 d, i64 q, nilS, anonV])) 60 (codeOf Tryz.f7 [1,1,1,0,1,0,0,1,1]) ⟨⟨T7x m t j x, H7 ds K ca o7 nilS o10, D7⟩, True⟩).map (obs3 [1,3,4,8,21,22,23] [0,1,2,3,4,5,6,7,8,9,15])
  = some (⟨0, vj m t j, 50, 16, cObs ds K ++ [.grow ca 46, o7, .cells mCat 42, .cells [slc 15 0 1 capG] 43, .grow [i64 d, i64 q, nilS, anonV] 46], D7⟩, some nilS = some nilS ∧ some nilS = some nilS ∧ some (Value.bool (decide (IntKind.i64.wrap (d + K) > t))) = some (Value.bool true) ∧ inD d = true ∧ LA ca m j d q) := by kernel_rfl
theorem r7g (ds : AObj) (ca rs : List Value) (o7 : AObj) (x : Value) (m j u : Nat) (K t d q : Int) : (ex3 Tryz.prog cR (oo7b true true (.agg #[i64 d, i64 q, nilS, anonV])) 60 (codeOf Tryz.f7 [1,1,1,0,1,0,0,1,1]) ⟨⟨T7x m t j x, H7 ds K ca o7 (slc 10 0 u capG) (.grow rs 46), D7⟩, True⟩).map (obs3 [1,3,4,8,21,22,23] [0,1,2,3,4,5,6,7,8,9,15])
  = some (⟨0, vj m t j, 50, 16, cObs ds K ++ [.grow ca 46, o7, .cells mCat 42, .cells [slc 15 0 (u + 1) capG] 43, .grow (rs.take (u * (3 + 1)) ++ [i64 d, i64 q, nilS, anonV]) 46], D7⟩, AppC 4 3 64 46 46 0 capG u 1 0 rs [i64 d, i64 q, nilS, anonV] ∧ some (slc 10 0 u capG) = some (slc 10 0 u capG) ∧ some (slc 10 0 u capG) = some (slc 10 0 u capG) ∧ some (Value.bool (decide (IntKind.i64.wrap (d + K) > t))) = some (Value.bool true) ∧ inD d = true ∧ LA ca m j d q) := by kernel_rfl
theorem r7h (ds : AObj) (ca : List Value) (o7 o10 : AObj) (x : Value) (m j : Nat) (K t : Int) : (ex3 Tryz.prog cR noOO 60 (codeOf Tryz.f7 [1,1,1,1]) ⟨⟨T7x m t j x, H7 ds K ca o7 nilS o10, D7⟩, True⟩).map (fin3 Tryz.prog Tryz.f7 [0,1,2,3,4,5,6,7,10])
  = some (⟨1, some nilS, 11, cObs ds K ++ [.grow ca 46, o7, o10], D7⟩, True) := by kernel_rfl
theorem r7i (ds : AObj) (ca : List Value) (o7 o10 : AObj) (x : Value) (m j u : Nat) (K t : Int) : (ex3 Tryz.prog cR noOO 60 (codeOf Tryz.f7 [1,1,1,1]) ⟨⟨T7x m t j x, H7 ds K ca o7 (slc 10 0 u capG) o10, D7⟩, True⟩).map (fin3 Tryz.prog Tryz.f7 [0,1,2,3,4,5,6,7,10])
  = some (⟨1, some (slc 10 0 u capG), 11, cObs ds K ++ [.grow ca 46, o7, o10], D7⟩, True) := by kernel_rfl

theorem sg8 {s : List (Nat × Nat)} : ∀ j, j < 8 → sg 8 s j = some j := fun j hj => by
  have : Nat.blt j 8 = true := by simpa [Nat.blt_eq] using hj
  simp [sg, this]
theorem q18 : (D7.all fun d => quietDefer Tryz.prog d.1 && callable Tryz.prog d.1) = true := by kernel_rfl
abbrev hX (ca : List Value) (o7 : AObj) (os : List Sn) : List (Nat × AObj) := [(6, .grow ca 46), (7, o7), (8, oE os)]
/-- The state of a round. -/
theorem does7 {ds : AObj} (hds : ∀ σ, RO σ ds ds) {l : List Sn} {o7 : AObj} (ho7 : ∀ σ, RO σ o7 o7) {K t : Int} (hC : CC K) (ht : inD t = true) (hlen : l.length ≤ 8) :
    Does Tryz.prog 7 [.agg mCat.toArray, i64 0, slc 6 0 l.length capG, i64 t] (H3 ds K 8 [(6, .grow (l.flatMap Sn.a) 46), (7, o7)]) (rvE 8 (l.filter (keepS K t))) (H3 ds K 9 (hX (l.flatMap Sn.a) o7 (l.filter (keepS K t)))) := by
  refine does_of_awpN (X := jX') Tryz.func7 (c := codeOf Tryz.f7 []) rfl (awp_of_awn (n := 8) ?_ (Nat.le_refl _))
  refine pieceS hm cR_sound (oo7a_sound true K) 2 (r7a ds (l.flatMap Sn.a) o7 l.length K t) rfl ⟨ht, ⟨hC, trivial⟩, trivial⟩ rfl 11 [(8, 8), (9, 9), (10, 11)] (os2 := base ds K (h7 (l.flatMap Sn.a) o7 (rvE 10 []) (oE []))) (D2 := D7) rfl ?_ ?_ ?_
  · exact cat_rs (fun j hj => sg8 j (by omega)) hds (.cons ⟨rfl, .grow (rv_a _)⟩ (.cons ⟨rfl, ho7 _⟩ (.cons ⟨rfl, .cells (.cons (.slice rfl) (.cons (.closed rfl) (.cons (.closed rfl) (.cons (.closed rfl) (.cons (.closed rfl) (.cons (.closed rfl) (.cons (.closed rfl) (.cons (.slice rfl) .nil))))))))⟩ (.cons ⟨rfl, .cells (.cons (.closed rfl) .nil)⟩ (.cons ⟨rfl, .dead _⟩ .nil)))))
  · exact .cons ⟨rfl, .cons (.ptr rfl) .nil⟩ .nil
  show Awn Tryz.prog 8 (codeOf Tryz.f7 [1,1,1]) _ (mkT 50 [(1, i64 0), (2, slc 6 0 l.length capG), (3, i64 t), (4, pt 8), (8, pt 9)] jX') (H7 ds K (l.flatMap Sn.a) o7 (rvE 10 []) (oE [])) D7
  refine awn_seq (x := codeOf Tryz.f7 [1,1,1,0]) (y := codeOf Tryz.f7 [1,1,1,1]) ?_
  refine pieceT hm cR_sound noOO_sound 0 (r7b l.length t _) rfl trivial rfl ?_
  refine awn_block (c := codeOf Tryz.f7 [1,1,1,0,1,0]) (awn_loop (c := codeOf Tryz.f7 [1,1,1,0,1,0,0])
    (fun q T H D => ∃ j, j + q = l.length ∧ T = T7 l.length t j ∧ H = H7 ds K (l.flatMap Sn.a) o7 (rvE 10 ((l.take j).filter (keepS K t))) (oE ((l.take j).filter (keepS K t))) ∧ D = D7)
    l.length ⟨_, _, _, .refl _ _ _ _ _, 0, by omega, rfl, rfl, rfl⟩ ?_)
  rintro q T H D ⟨j, hq, rfl, rfl, rfl⟩
  refine pieceT hm cR_sound noOO_sound 0 (r7c l.length j t _) rfl trivial rfl ?_
  refine awn_seq (x := codeOf Tryz.f7 [1,1,1,0,1,0,0,1,0]) (y := codeOf Tryz.f7 [1,1,1,0,1,0,0,1,1]) ?_
  refine awn_cond (c := .tmp 24) (b := decide ((j : Int) < (l.length : Int))) rfl rfl ?_
  cases q with
  | zero =>
    rw [decide_eq_false (by omega)]
    refine awn_exit ?_
    have e : l.take j = l := List.take_of_length_le (by omega)
    show Awn Tryz.prog 8 (codeOf Tryz.f7 [1,1,1,1]) _ (T7x l.length t j _) (H7 ds K (l.flatMap Sn.a) o7 (rvE 10 ((l.take j).filter (keepS K t))) (oE ((l.take j).filter (keepS K t)))) D7
    rw [e]
    have fin : ∀ (e : Ex) (T : List Value) (H : Heap), e.tag = 1 → resA Tryz.prog Tryz.f7 T H = some (rvE 10 (l.filter (keepS K t))) → H.next = 11 → (∀ p ∈ [0,1,2,3,4,5,6,7,10].zip (cObs ds K ++ [.grow (l.flatMap Sn.a) 46, o7, oE (l.filter (keepS K t))]), H.get p.1 = p.2) →
        ((e.to = .normal ∨ e.to = .ret) ∧ (D7.all fun d => quietDefer Tryz.prog d.1 && callable Tryz.prog d.1) = true ∧ ∃ u, resA Tryz.prog Tryz.f7 T H = some u ∧ Nrm Tryz.prog 8 (mkT 1 [(0, u)] jX') H [] (mkT 1 [(0, rvE 8 (l.filter (keepS K t)))] jX') (H3 ds K 9 (hX (l.flatMap Sn.a) o7 (l.filter (keepS K t)))) []) := by
      intro e T H he hr _ hg
      refine ⟨.inr (by rw [tag1 he]; rfl), q18, _, hr, ?_⟩
      refine Nrm.mk (k2 := [(0, rvE 8 (l.filter (keepS K t)))]) hg 9 [(8, 10)] rfl (.cons ⟨rfl, rv_rvE (i := 10) (j := 8) rfl _⟩ .nil) ?_ .nil
      exact cat_rs (fun j hj => sg8 j (by omega)) hds (.cons ⟨rfl, .grow (rv_a _)⟩ (.cons ⟨rfl, ho7 _⟩ (.cons ⟨rfl, ro_oE _⟩ .nil)))
    generalize l.filter (keepS K t) = os at fin ⊢
    cases os with
    | nil => exact pieceF hm cR_sound noOO_sound (r7h ds (l.flatMap Sn.a) o7 _ _ l.length j K t) trivial fin
    | cons s os => exact pieceF hm cR_sound noOO_sound (r7i ds (l.flatMap Sn.a) o7 _ _ l.length j _ K t) trivial fin
  | succ q =>
    rw [decide_eq_true (by omega)]
    refine awn_skip ?_
    have hj : j < l.length := by omega
    obtain ⟨s, hs⟩ : ∃ s, l[j]? = some s := ⟨_, List.getElem?_eq_getElem hj⟩
    have hLA : LA (l.flatMap Sn.a) l.length j s.d s.q := ⟨ld46 a4 hs [], ⟨by omega, by omega⟩, trivial⟩
    have hw : IntKind.i64.wrap ((j : Int) + 1) = ((j + 1 : Nat) : Int) := wrap_i1 (by omega)
    have etk : l.take (j + 1) = l.take j ++ [s] := by
      rw [List.take_add_one, hs]; rfl
    have efl : (l.take (j + 1)).filter (keepS K t) = (l.take j).filter (keepS K t) ++ (bif keepS K t s then [s] else []) := by
      rw [etk, List.filter_append]
      cases hk : keepS K t s <;> simp [List.filter, hk]
    generalize hacc : (l.take j).filter (keepS K t) = acc at efl ⊢
    have hacl : acc.length ≤ 8 := by rw [← hacc]; exact Nat.le_trans (List.length_filter_le ..) (Nat.le_trans (List.length_take_le _ _) (by omega))
    have step : ∀ (acc2 : List Sn), (l.take (j + 1)).filter (keepS K t) = acc2 → ∀ (T : List Value) (H : Heap) (D : Defs), Nrm Tryz.prog 8 T H D (T7 l.length t (j + 1)) (H7 ds K (l.flatMap Sn.a) o7 (rvE 10 acc2) (oE acc2)) D7 →
        ∃ m, m < q + 1 ∧ ∃ T2 H2 D2, Nrm Tryz.prog 8 T H D T2 H2 D2 ∧ ∃ j', j' + m = l.length ∧ T2 = T7 l.length t j' ∧ H2 = H7 ds K (l.flatMap Sn.a) o7 (rvE 10 ((l.take j').filter (keepS K t))) (oE ((l.take j').filter (keepS K t))) ∧ D2 = D7 := by
      intro acc2 h2 T H D hN
      exact ⟨q, by omega, _, _, _, hN, j + 1, by omega, rfl, by rw [h2], rfl⟩
    have hcat : ∀ {s0 : List (Nat × Nat)}, sg 8 s0 8 = some 8 → RS (sg 8 s0) (8, .cells mCat 42) (8, .cells mCat 42) := fun h8 =>
      ⟨h8, .cells (.cons (.slice (sg8 2 (by omega))) (.cons (.closed rfl) (.cons (.closed rfl) (.cons (.closed rfl) (.cons (.closed rfl) (.cons (.closed rfl) (.cons (.closed rfl) (.cons (.slice (sg8 4 (by omega))) .nil))))))))⟩
    cases hk : keepS K t s with
    | false =>
      have e2 : (l.take (j + 1)).filter (keepS K t) = acc := by rw [efl, hk]; simp
      have ob : F2 (RS (sg 8 [(8, 8), (9, 9), (10, 10)])) ([0,1,2,3,4,5,6,7,8,9,10].zip (cObs ds K ++ [.grow (l.flatMap Sn.a) 46, o7, .cells mCat 42, .cells [rvE 10 acc] 43, oE acc])) (base ds K (h7 (l.flatMap Sn.a) o7 (rvE 10 acc) (oE acc))) :=
        cat_rs (fun j hj => sg8 j (by omega)) hds (.cons ⟨rfl, .grow (rv_a _)⟩ (.cons ⟨rfl, ho7 _⟩ (.cons (hcat rfl) (.cons ⟨rfl, .cells (.cons (rv_rvE (σ := sg 8 [(8, 8), (9, 9), (10, 10)]) (i := 10) (j := 10) rfl _) .nil)⟩ (.cons ⟨rfl, ro_oE _⟩ .nil)))))
      have hQ : ∀ T H D, Nrm Tryz.prog 8 T H D (mkT 50 (rnT 8 [(8, 8), (9, 9), (10, 10)] ([1,3,4,8,21,22,23].zip (vj l.length t j))) jX') (mkH 11 (base ds K (h7 (l.flatMap Sn.a) o7 (rvE 10 acc) (oE acc))) []) D7 → Nrm Tryz.prog 8 T H D (T7 l.length t (j + 1)) (H7 ds K (l.flatMap Sn.a) o7 (rvE 10 acc) (oE acc)) D7 := by
        intro T H D hN
        have : mkT 50 (rnT 8 [(8, 8), (9, 9), (10, 10)] ([1,3,4,8,21,22,23].zip (vj l.length t j))) jX' = T7 l.length t (j + 1) := by
          unfold vj
          rw [hw]; rfl
        rw [this] at hN
        exact hN
      cases hd : inD s.d with
      | false =>
        exact pieceE hm cR_sound (oo7b_sound _ _ _) (r7d ds (l.flatMap Sn.a) o7 (oE acc) (rvE 10 acc) _ l.length j K t s.d s.q) ⟨hd, hLA⟩ rfl 11 [(8, 8), (9, 9), (10, 10)] rfl ob (.cons ⟨rfl, .cons (.ptr rfl) .nil⟩ .nil) fun T H D hN => step acc e2 T H D (hQ T H D hN)
      | true =>
        have hgt : decide (IntKind.i64.wrap (s.d + K) > t) = false := by simpa [keepS, hd] using hk
        exact pieceE hm cR_sound (oo7b_sound _ _ _) (r7e ds (l.flatMap Sn.a) o7 (oE acc) (rvE 10 acc) _ l.length j K t s.d s.q) ⟨congrArg (fun b => some (Value.bool b)) hgt, hd, hLA⟩ rfl 11 [(8, 8), (9, 9), (10, 10)] rfl ob (.cons ⟨rfl, .cons (.ptr rfl) .nil⟩ .nil) fun T H D hN => step acc e2 T H D (hQ T H D hN)
    | true =>
      have e2 : (l.take (j + 1)).filter (keepS K t) = acc ++ [s] := by rw [efl, hk]; rfl
      simp only [keepS, Bool.and_eq_true] at hk
      obtain ⟨hd, hgt⟩ := hk
      have hT : mkT 50 (rnT 8 [(8, 8), (9, 9), (10, 15)] ([1,3,4,8,21,22,23].zip (vj l.length t j))) jX' = T7 l.length t (j + 1) := by
        unfold vj
        rw [hw]; rfl
      have hgt' := congrArg (fun b => some (Value.bool b)) hgt
      cases acc with
      | nil =>
        refine pieceE hm cR_sound (oo7b_sound _ _ _) (r7f ds (l.flatMap Sn.a) o7 (oE []) _ l.length j K t s.d s.q) ⟨rfl, rfl, hgt', hd, hLA⟩ rfl 11 [(8, 8), (9, 9), (10, 15)] (os2 := base ds K (h7 (l.flatMap Sn.a) o7 (rvE 10 [s]) (oE [s]))) rfl ?_ (.cons ⟨rfl, .cons (.ptr rfl) .nil⟩ .nil) fun T H D hN => step [s] e2 T H D (by rw [hT] at hN; exact hN)
        exact cat_rs (fun j hj => sg8 j (by omega)) hds (.cons ⟨rfl, .grow (rv_a _)⟩ (.cons ⟨rfl, ho7 _⟩ (.cons (hcat rfl) (.cons ⟨rfl, .cells (.cons (.slice rfl) .nil)⟩ (.cons ⟨rfl, .grow (rv_a [s])⟩ .nil)))))
      | cons x acc =>
        have hlen4 : ((x :: acc).flatMap Sn.a).length = (x :: acc).length * 4 := fm_len a4 _
        refine pieceE hm cR_sound (oo7b_sound _ _ _) (r7g ds (l.flatMap Sn.a) ((x :: acc).flatMap Sn.a) o7 _ l.length j (x :: acc).length K t s.d s.q) ⟨⟨rfl, by omega, by omega, by omega, rfl, rfl, rfl, by omega, Nat.le_of_ble_eq_true rfl, by intro v hv; simp [anonV] at hv; rcases hv with rfl | rfl | rfl | rfl <;> rfl⟩, rfl, rfl, hgt', hd, hLA⟩ rfl 11 [(8, 8), (9, 9), (10, 15)] (os2 := base ds K (h7 (l.flatMap Sn.a) o7 (rvE 10 (x :: acc ++ [s])) (oE (x :: acc ++ [s])))) rfl ?_ (.cons ⟨rfl, .cons (.ptr rfl) .nil⟩ .nil) fun T H D hN => step (x :: acc ++ [s]) e2 T H D (by rw [hT] at hN; exact hN)
        have e3 : ((x :: acc).flatMap Sn.a).take ((x :: acc).length * (3 + 1)) ++ [i64 s.d, i64 s.q, nilS, anonV] = (x :: acc ++ [s]).flatMap Sn.a := by
          rw [List.take_of_length_le (by omega), List.flatMap_append]; rfl
        have e4 : rvE 10 (x :: acc ++ [s]) = slc 10 0 ((x :: acc).length + 1) capG := by
          show slc 10 0 (x :: acc ++ [s]).length capG = _
          rw [List.length_append]; rfl
        rw [e4, e3]
        exact cat_rs (fun j hj => sg8 j (by omega)) hds (.cons ⟨rfl, .grow (rv_a _)⟩ (.cons ⟨rfl, ho7 _⟩ (.cons (hcat rfl) (.cons ⟨rfl, .cells (.cons (.slice rfl) .nil)⟩ (.cons ⟨rfl, .grow (rv_a _)⟩ .nil)))))
end Go.Abs

