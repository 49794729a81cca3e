/- BackupKeeps of law 31: Keep and Expire of the program return the lists of the specification, for all days, numbers of days and today; no condition. -/
import Derived.Test.YtafcagkhojhbbaaGreatKM6
set_option linter.unusedSimpArgs false
set_option linter.unusedVariables false
namespace Go.Abs
open Go.Proofs
set_option maxRecDepth 1000000
abbrev Fin3 (o : AObj) : APost := fun ex T' H' D' => (ex = .normal ∨ ex = .ret) ∧ (D'.all fun d => quietDefer Tryz.prog d.1 && callable Tryz.prog d.1) = true ∧ ∃ u, resA Tryz.prog Tryz.f3 T' H' = some u ∧ u = .bool true ∧ Keep ⟨1, [(0, o)]⟩ H'
theorem keep0 {o : AObj} {H : Heap} (h1 : 1 ≤ H.next) (h2 : H.get 0 = o) : Keep ⟨1, [(0, o)]⟩ H := ⟨h1, fun id hid => by
  have : id = 0 := by have : id < 1 := hid; omega
  subst this
  rw [h2]; rfl⟩
/-- The end of the main function. -/
theorem end3 {o : AObj} {K t : Int} {l : List (Nat × AObj)} {a b x y : Value} : Awn Tryz.prog 6 (codeOf Tryz.f3 [1,1,1,1,1,1,1,1]) (Fin3 o) (mkT 132 (kA t ++ [(16, a), (17, b), (18, x), (99, y)]) jX') (H3 o K 10 l) [] := by
  refine pieceF hm cR_sound (callO_sound aw4) (r23 o K t l a b x y) ⟨trivial, trivial⟩ ?_
  intro e T H he hr hn hg
  exact ⟨.inr (by rw [tag1 he]; rfl), rfl, _, hr, rfl, keep0 (by rw [hn]; show 1 ≤ 18; omega) (hg (0, o) (List.mem_cons_self ..))⟩
/-- The results are compared. -/
theorem cmp3 {o : AObj} (ho : ∀ σ, RO σ o o) {K t : Int} {hl : List (Nat × AObj)} {os : List Sn} (hos : os.length ≤ 8) (hg : ∀ p ∈ base o K [(8, oE os), (9, oF os)], (H3 o K 10 hl).get p.1 = p.2) :
    Awn Tryz.prog 6 (codeOf Tryz.f3 [1,1,1,1,1,1,1]) (Fin3 o) (mkT 132 (kA t ++ [(16, rvE 8 os), (17, rvE 9 os)]) jX') (H3 o K 10 hl) [] := by
  refine awn_seq (x := codeOf Tryz.f3 [1,1,1,1,1,1,1,0]) (y := codeOf Tryz.f3 [1,1,1,1,1,1,1,1]) ?_
  refine pieceT hm cR_sound noOO_sound 0 (r18 t (rvE 8 os) (rvE 9 os) _) rfl trivial rfl ?_
  cases os with
  | nil =>
    refine awn_block (c := codeOf Tryz.f3 [1,1,1,1,1,1,1,0,1,0]) (awn_loop (c := codeOf Tryz.f3 [1,1,1,1,1,1,1,0,1,0,0])
      (fun q T H D => T = mkT 132 (kA t ++ [(16, nilS), (17, nilS), (18, i64 ((0 : Nat) : Int))]) jX' ∧ H = H3 o K 10 hl ∧ D = []) 0 ⟨_, _, _, .refl _ _ _ _ _, rfl, rfl, rfl⟩ ?_)
    rintro q T H D ⟨rfl, rfl, rfl⟩
    refine awn_seq (x := codeOf Tryz.f3 [1,1,1,1,1,1,1,0,1,0,0,0]) (y := codeOf Tryz.f3 [1,1,1,1,1,1,1,0,1,0,0,1]) ?_
    refine pieceT hm cR_sound noOO_sound 0 (r19n t _) rfl trivial rfl ?_
    refine awn_cond (c := .tmp 99) (b := false) rfl rfl ?_
    refine awn_exit ?_
    exact end3
  | cons s os =>
    generalize hu : (s :: os).length = u at hos
    have e8 : rvE 8 (s :: os) = slc 8 0 u capG := by rw [← hu]; rfl
    have e9 : rvE 9 (s :: os) = slc 9 0 u capG := by rw [← hu]; rfl
    rw [e8, e9]
    refine awn_block (c := codeOf Tryz.f3 [1,1,1,1,1,1,1,0,1,0]) (awn_loop (c := codeOf Tryz.f3 [1,1,1,1,1,1,1,0,1,0,0])
      (fun q T H D => ∃ j, j + q = u ∧ T = mkT 132 (kA t ++ [(16, slc 8 0 u capG), (17, slc 9 0 u capG), (18, i64 (j : Int))]) jX' ∧ H = H3 o K 10 [(8, .grow ((s :: os).flatMap Sn.a) 46), (9, .grow ((s :: os).flatMap Sn.b) 46)] ∧ D = [])
      u ⟨_, _, _, Nrm.mk (os2 := base o K [(8, .grow ((s :: os).flatMap Sn.a) 46), (9, .grow ((s :: os).flatMap Sn.b) 46)]) hg 10 [(8, 8), (9, 9)] rfl (rnT_F2 6 [(8, 8), (9, 9)] (kA t ++ [(16, slc 8 0 u capG), (17, slc 9 0 u capG), (18, i64 ((0 : Nat) : Int))])) (cat_rs sg6 ho (.cons ⟨rfl, .grow (rv_a _)⟩ (.cons ⟨rfl, .grow (rv_b _)⟩ .nil))) .nil, 0, by omega, rfl, rfl, rfl⟩ ?_)
    rintro q T H D ⟨j, hq, rfl, rfl, rfl⟩
    refine awn_seq (x := codeOf Tryz.f3 [1,1,1,1,1,1,1,0,1,0,0,0]) (y := codeOf Tryz.f3 [1,1,1,1,1,1,1,0,1,0,0,1]) ?_
    refine pieceT hm cR_sound noOO_sound 0 (r19s t u j _) rfl trivial rfl ?_
    refine awn_cond (c := .tmp 99) (b := decide ((j : Int) < (u : Int))) rfl rfl ?_
    cases q with
    | zero =>
      rw [decide_eq_false (by omega)]
      refine awn_exit ?_
      exact end3
    | succ q =>
      rw [decide_eq_true (by omega)]
      refine awn_skip ?_
      obtain ⟨x, hx⟩ : ∃ x, (s :: os)[j]? = some x := ⟨_, List.getElem?_eq_getElem (by rw [hu]; omega)⟩
      have hw : IntKind.i64.wrap ((j : Int) + 1) = ((j + 1 : Nat) : Int) := wrap_i1 (by omega)
      have r := r21 o K t x.d x.q (.bool true) ((s :: os).flatMap Sn.a) ((s :: os).flatMap Sn.b) u j
      rw [hw] at r
      refine pieceE hm cR_sound (oo21_sound _ _) r ⟨⟨by simp, by simp, trivial⟩, ld46 b4 hx [], ⟨by omega, by omega⟩, ld46 a4 hx [], ⟨by omega, by omega⟩, trivial⟩ rfl 10 [(8, 8), (9, 9)] (os2 := base o K [(8, .grow ((s :: os).flatMap Sn.a) 46), (9, .grow ((s :: os).flatMap Sn.b) 46)]) rfl (cat_rs sg6 ho (.cons ⟨rfl, .grow (rv_a _)⟩ (.cons ⟨rfl, .grow (rv_b _)⟩ .nil))) .nil ?_
      intro T H D hN
      exact ⟨q, by omega, _, _, _, hN, j + 1, by omega, rfl, rfl, rfl⟩
theorem exE_len {K t : Int} {l : List Sn} : (exE K t l).length ≤ l.length := by
  unfold exE
  cases inD t with
  | true => exact List.length_filter_le ..
  | false => exact Nat.zero_le _
/-- Behind the main loop. -/
theorem aft3 {o : AObj} (ho : ∀ σ, RO σ o o) {K t k : Int} (hC : CC K) {l : List Sn} {p : Option Sn} (hlen : l.length ≤ 8) {x y z : Value} :
    Awn Tryz.prog 6 (codeOf Tryz.f3 [1,1,1,1,1]) (Fin3 o) (mkT 132 [(0, x), (1, i64 k), (2, i64 t), (7, pt 5), (8, stA l), (9, stB p l), (10, y), (41, z)] jX') (H3 o K 8 (stH p l)) [] := by
  have h7 := does7G ho (p := p) (t := t) hC hlen
  have h8 := does8G ho (os := exE K t l) (p := p) (t := t) hC hlen
  have hle := exE_len (K := K) (t := t) (l := l)
  have hnil : l = [] → exE K t l = [] := fun h => by subst h; unfold exE; cases inD t <;> rfl
  generalize exE K t l = os at h7 h8 hle hnil
  refine pieceT hm cR_sound (orO_sound (callO_sound (exC_sound h7)) (callO_sound (exC_sound h8))) 0 (r15 o K t 0 k (stA l) (stB p l) (rvE 8 os) (rvE 9 os) x y z (stH p l) (stH p l ++ [(8, oE os)]) (stH p l ++ [(8, oE os), (9, oF os)])) rfl ⟨⟨rfl, rfl⟩, rfl, ⟨rfl, rfl⟩, trivial⟩ rfl ?_
  show Awn Tryz.prog 6 (codeOf Tryz.f3 [1,1,1,1,1,1]) (Fin3 o) (mkT 132 (kA t ++ [(8, stA l), (16, rvE 8 os), (17, rvE 9 os)]) jX') (H3 o K 10 (stH p l ++ [(8, oE os), (9, oF os)])) []
  have hgb : ∀ q ∈ base o K [(8, oE os), (9, oF os)], (H3 o K 10 (stH p l ++ [(8, oE os), (9, oF os)])).get q.1 = q.2 := by
    intro q hq
    simp only [base, catH, List.cons_append, List.nil_append, List.mem_cons, List.not_mem_nil, or_false] at hq
    cases l with
    | nil => rcases hq with rfl | rfl | rfl | rfl | rfl | rfl | rfl | rfl <;> rfl
    | cons s l => rcases hq with rfl | rfl | rfl | rfl | rfl | rfl | rfl | rfl <;> rfl
  cases l with
  | nil =>
    have := hnil rfl
    subst this
    refine pieceT hm cR_sound (orO_sound forceO_sound forceO_sound) 0 (r16n t _) rfl ⟨rfl, rfl, trivial⟩ rfl ?_
    exact cmp3 ho (os := []) (by decide) hgb
  | cons s l =>
    cases os with
    | nil =>
      refine pieceT hm cR_sound (orO_sound forceO_sound forceO_sound) 0 (r16m t (s :: l).length _) rfl ⟨rfl, by rw [decide_eq_false (by omega)], trivial⟩ rfl ?_
      exact cmp3 ho (os := []) (by decide) hgb
    | cons s' os =>
      refine pieceT hm cR_sound (orO_sound forceO_sound forceO_sound) 0 (r16s t (s :: l).length (s' :: os).length _) rfl ⟨by simp, by rw [decide_eq_false (by omega)], trivial⟩ rfl ?_
      exact cmp3 ho (os := s' :: os) (by omega) hgb
def SL (j : Nat) (a : Option Addr) (n c : Nat) (o : AObj) (k : Nat) (cs : List Value) : Prop :=
  ((a = none ∨ a = some ⟨0, 0, some 1⟩) ∧ n = 0 ∧ c = 0 ∧ o = .dead ∧ k = 0) ∨ (a = some ⟨j, 0, none⟩ ∧ c = capG ∧ o = .ro cs ∧ n = k ∧ ∀ v ∈ cs, c2 v = true)
theorem agg3' {l : List Int} {j : Nat} {d : Int} (h : l[j]? = some d) : LdC Tryz.prog 3 (some (l.map i64)) (0 + ((j : Int)).toNat * 1) (i64 d) := by
  unfold LdC ldR
  simp only [agg3]
  show (l.map i64)[0 + j * 1]? = some (i64 d)
  rw [Nat.zero_add, Nat.mul_one, List.getElem?_map, h]
  rfl
theorem does3 {a : Option Addr} {n c : Nat} {o : AObj} {days : List Int} (h : SL 0 a n c o days.length (days.map i64)) (k t : Int) :
    Does Tryz.prog 3 [.slice a n c, i64 k, i64 t] ⟨1, [(0, o)]⟩ (.bool true) ⟨1, [(0, o)]⟩ := by
  have hC : CC (kK k) := cc_ok (kK_ok k).1 (kK_ok k).2
  have hrem : (IntKind.u64 = IntKind.u64 ∧ (40 : Int) ≠ 0) := ⟨rfl, by decide⟩
  refine val_of_awp Tryz.func3 (c := codeOf Tryz.f3 []) rfl rfl (awp_of_awn (n := 6) ?_ (by show 1 ≤ 6; omega))
  rcases h with ⟨ha, rfl, rfl, rfl, hk⟩ | ⟨rfl, rfl, rfl, rfl, hc2⟩
  · -- no days
    have key : ∀ x : Value, (Awn Tryz.prog 6 (codeOf Tryz.f3 [1,1,1,1]) (Fin3 .dead) (mkT 132 [(0, x), (1, i64 k), (2, i64 t), (7, pt 5), (8, nilS), (9, nilS)] jX') (H3 .dead (kK k) 8 []) [] → Awn Tryz.prog 6 (codeOf Tryz.f3 []) (Fin3 .dead) ([x, i64 k, i64 t] ++ List.replicate 129 undef) ⟨1, [(0, .dead)]⟩ []) →
        (∀ (Q : APost) (H : Heap), Awn Tryz.prog 6 (rst 0 (codeOf Tryz.f3 [1,1,1,1,0,1,0,0,0])) Q (mkT 132 [(0, x), (1, i64 k), (2, i64 t), (7, pt 5), (8, nilS), (9, nilS), (10, i64 ((0 : Nat) : Int)), (41, .bool false)] jX') H [] → Awn Tryz.prog 6 (codeOf Tryz.f3 [1,1,1,1,0,1,0,0,0]) Q (T3v x k t nilS nilS ((0 : Nat) : Int)) H []) →
        Awn Tryz.prog 6 (codeOf Tryz.f3 []) (Fin3 .dead) ([x, i64 k, i64 t] ++ List.replicate 129 undef) ⟨1, [(0, .dead)]⟩ [] := by
      intro x h1 h2
      refine h1 ?_
      refine awn_seq (x := codeOf Tryz.f3 [1,1,1,1,0]) (y := codeOf Tryz.f3 [1,1,1,1,1]) ?_
      refine pieceT hm cR_sound noOO_sound 0 (r3c nilS nilS x (i64 k) (i64 t) (pt 5) nilS _) rfl trivial rfl ?_
      refine awn_block (c := codeOf Tryz.f3 [1,1,1,1,0,1,0]) (awn_loop (c := codeOf Tryz.f3 [1,1,1,1,0,1,0,0])
        (fun q T H D => T = T3v x k t nilS nilS ((0 : Nat) : Int) ∧ H = H3 .dead (kK k) 8 [] ∧ D = []) 0 ⟨_, _, _, .refl _ _ _ _ _, rfl, rfl, rfl⟩ ?_)
      rintro q T H D ⟨rfl, rfl, rfl⟩
      refine awn_seq (x := codeOf Tryz.f3 [1,1,1,1,0,1,0,0,0]) (y := codeOf Tryz.f3 [1,1,1,1,0,1,0,0,1]) ?_
      refine h2 _ _ ?_
      refine awn_cond (c := .tmp 41) (b := false) rfl rfl ?_
      refine awn_exit ?_
      exact aft3 (fun σ => .dead _) hC (l := []) (p := none) (by decide)
    have obs : F2 (RS (sg 6 [])) ([0,1,2,3,4,5].zip (cObs .dead (kK k))) (base .dead (kK k) []) := cat_rs sg6 (fun σ => .dead _) .nil
    rcases ha with rfl | rfl
    · exact key nilS (fun hq => pieceS hm cR_sound (oo0_sound false) 3 (r3n .dead k t) rfl ⟨hrem, rfl, trivial⟩ rfl 8 [] rfl obs .nil hq) fun Q H hq => pieceT hm cR_sound noOO_sound 0 (r3hn k t nilS nilS H) rfl trivial rfl hq
    · exact key nilE (fun hq => pieceS hm cR_sound (oo0_sound false) 3 (r3e .dead k t) rfl ⟨hrem, rfl, trivial⟩ rfl 8 [] rfl obs .nil hq) fun Q H hq => pieceT hm cR_sound noOO_sound 0 (r3he k t nilS nilS H) rfl trivial rfl hq
  · generalize hn : days.length = n
    have hds : ∀ σ, RO σ (.ro (days.map i64)) (.ro (days.map i64)) := fun σ => .ro (RV.all hc2)
    by_cases hbig : n > 20
    · refine pieceF hm cR_sound ooB_sound (r3big (.ro (days.map i64)) n k t) ⟨trivial, by rw [decide_eq_true (by omega)], trivial⟩ ?_
      intro e T H he hr hnx hg
      exact ⟨.inr (by rw [tag1 he]; rfl), rfl, _, hr, rfl, keep0 (by rw [hnx]; exact Nat.le_refl _) (hg (0, _) (List.mem_cons_self ..))⟩
    · refine pieceS hm cR_sound (oo0_sound false) 3 (r3a (.ro (days.map i64)) n k t) rfl ⟨hrem, by rw [decide_eq_false (by omega)], trivial⟩ rfl 8 [] (os2 := base (.ro (days.map i64)) (kK k) []) rfl (cat_rs sg6 hds .nil) .nil ?_
      show Awn Tryz.prog 6 (codeOf Tryz.f3 [1,1,1,1]) (Fin3 _) (mkT 132 [(0, slc 0 0 n capG), (1, i64 k), (2, i64 t), (7, pt 5), (8, nilS), (9, nilS)] jX') (H3 (.ro (days.map i64)) (kK k) 8 []) []
      refine awn_seq (x := codeOf Tryz.f3 [1,1,1,1,0]) (y := codeOf Tryz.f3 [1,1,1,1,1]) ?_
      refine pieceT hm cR_sound noOO_sound 0 (r3c nilS nilS _ (i64 k) (i64 t) (pt 5) nilS _) rfl trivial rfl ?_
      refine awn_block (c := codeOf Tryz.f3 [1,1,1,1,0,1,0]) (awn_loop (c := codeOf Tryz.f3 [1,1,1,1,0,1,0,0])
        (fun q T H D => ∃ j l p, j + q = n ∧ l.length ≤ 8 ∧ (∀ s, p = some s → l.length = 8) ∧ T = T3 n k t (stA l) (stB p l) (j : Int) ∧ H = H3 (.ro (days.map i64)) (kK k) 8 (stH p l) ∧ D = [])
        n ⟨_, _, _, .refl _ _ _ _ _, 0, [], none, by omega, by decide, (fun s h => nomatch h), rfl, rfl, rfl⟩ ?_)
      rintro q T H D ⟨j, l, p, hq, hlen, hp, rfl, rfl, rfl⟩
      refine awn_seq (x := codeOf Tryz.f3 [1,1,1,1,0,1,0,0,0]) (y := codeOf Tryz.f3 [1,1,1,1,0,1,0,0,1]) ?_
      refine pieceT hm cR_sound noOO_sound 0 (r3h n j k t (stA l) (stB p l) _) rfl trivial rfl ?_
      refine awn_cond (c := .tmp 41) (b := decide ((j : Int) < (n : Int))) rfl rfl ?_
      cases q with
      | zero =>
        rw [decide_eq_false (by omega)]
        refine awn_exit ?_
        exact aft3 hds hC hlen
      | succ q =>
        rw [decide_eq_true (by omega)]
        refine awn_skip ?_
        obtain ⟨d, hd⟩ : ∃ d, days[j]? = some d := ⟨_, List.getElem?_eq_getElem (by omega)⟩
        refine awn_nrm (nrm_drop 7) ?_
        show Awn Tryz.prog 6 bodyC _ (T3 n k t (stA l) (stB p l) (j : Int)) (H3 (.ro (days.map i64)) (kK k) 8 (stH p l)) []
        refine roundK hc2 hC ⟨agg3' hd, by omega, by omega⟩ l p hlen hp ?_
        intro l' p' hlen' hp' T H D hN
        rw [wrap_i1 (by omega : j ≤ 1000000000)] at hN
        exact ⟨q, by omega, _, _, _, hN, j + 1, l', p', by omega, hlen', hp', rfl, rfl, rfl⟩
end Go.Abs

