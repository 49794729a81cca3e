/- BackupKeeps of law 31: Keep and Expire of the program return the lists of the specification, for all days, numbers of days and today; no condition. -/
import Derived.Test.YtafcagkhojhbbaaGreatKE2
set_option linter.unusedSimpArgs false
set_option linter.unusedVariables false
namespace Go.Abs
open Go.Proofs
set_option maxRecDepth 1000000
theorem r7zn (ds : AObj) (K t : Int) : (ex3 Tryz.prog cR (oo7a false K) 60 (codeOf Tryz.f7 []) ⟨⟨[.agg mCat.toArray, i64 0, nilS, i64 t] ++ List.replicate 46 undef, H3 ds K 8 [], []⟩, True⟩).map (fin3 Tryz.prog Tryz.f7 [0,1,2,3,4,5,8])
  = some (⟨1, some nilS, 11, cObs ds K ++ [.cells mCat 42], [(18, [pt 9])]⟩, inD t = false ∧ (CC K ∧ True) ∧ True) := by kernel_rfl
theorem r7zc (ds o6 o7 : AObj) (K t : Int) (av : Value) : (ex3 Tryz.prog cR (oo7a false K) 60 (codeOf Tryz.f7 []) ⟨⟨[.agg mCat.toArray, i64 0, av, i64 t] ++ List.replicate 46 undef, H3 ds K 8 [(6, o6), (7, o7)], []⟩, True⟩).map (fin3 Tryz.prog Tryz.f7 [0,1,2,3,4,5,6,7,8])
  = some (⟨1, some nilS, 11, cObs ds K ++ [o6, o7, .cells mCat 42], [(18, [pt 9])]⟩, inD t = false ∧ (CC K ∧ True) ∧ True) := by kernel_rfl
theorem r8nn (ds o8 : AObj) (K t : Int) : (ex3 Tryz.prog cR (oo8a false false K) 60 (codeOf Tryz.f8 []) ⟨⟨[.agg mCat.toArray, i64 0, nilS, i64 t] ++ List.replicate 63 undef, H3 ds K 9 [(8, o8)], []⟩, True⟩).map (fin3 Tryz.prog Tryz.f8 [0,1,2,3,4,5,8,9])
  = some (⟨1, some nilS, 11, cObs ds K ++ [o8, .cells mCat 42], []⟩, sB' (decide (t > 1048576)) false ∧ sB' (decide (t < 0)) false ∧ (CC K ∧ True) ∧ True) := by kernel_rfl
theorem r8n1 (ds o8 : AObj) (K t : Int) : (ex3 Tryz.prog cR (oo8a true false K) 60 (codeOf Tryz.f8 []) ⟨⟨[.agg mCat.toArray, i64 0, nilS, i64 t] ++ List.replicate 63 undef, H3 ds K 9 [(8, o8)], []⟩, True⟩).map (fin3 Tryz.prog Tryz.f8 [0,1,2,3,4,5,8,9])
  = some (⟨1, some nilS, 11, cObs ds K ++ [o8, .cells mCat 42], []⟩, sB' (decide (t < 0)) true ∧ (CC K ∧ True) ∧ True) := by kernel_rfl
theorem r8n2 (ds o8 : AObj) (K t : Int) : (ex3 Tryz.prog cR (oo8a false true K) 60 (codeOf Tryz.f8 []) ⟨⟨[.agg mCat.toArray, i64 0, nilS, i64 t] ++ List.replicate 63 undef, H3 ds K 9 [(8, o8)], []⟩, True⟩).map (fin3 Tryz.prog Tryz.f8 [0,1,2,3,4,5,8,9])
  = some (⟨1, some nilS, 11, cObs ds K ++ [o8, .cells mCat 42], []⟩, sB' (decide (t > 1048576)) true ∧ sB' (decide (t < 0)) false ∧ (CC K ∧ True) ∧ True) := by kernel_rfl
theorem r8c1 (ds o6 o7 o8 : AObj) (K t : Int) (av : Value) : (ex3 Tryz.prog cR (oo8a true false K) 60 (codeOf Tryz.f8 []) ⟨⟨[.agg mCat.toArray, i64 0, av, i64 t] ++ List.replicate 63 undef, H3 ds K 9 [(6, o6), (7, o7), (8, o8)], []⟩, True⟩).map (fin3 Tryz.prog Tryz.f8 [0,1,2,3,4,5,6,7,8,9])
  = some (⟨1, some nilS, 11, cObs ds K ++ [o6, o7, o8, .cells mCat 42], []⟩, sB' (decide (t < 0)) true ∧ (CC K ∧ True) ∧ True) := by kernel_rfl
theorem r8c2 (ds o6 o7 o8 : AObj) (K t : Int) (av : Value) : (ex3 Tryz.prog cR (oo8a false true K) 60 (codeOf Tryz.f8 []) ⟨⟨[.agg mCat.toArray, i64 0, av, i64 t] ++ List.replicate 63 undef, H3 ds K 9 [(6, o6), (7, o7), (8, o8)], []⟩, True⟩).map (fin3 Tryz.prog Tryz.f8 [0,1,2,3,4,5,6,7,8,9])
  = some (⟨1, some nilS, 11, cObs ds K ++ [o6, o7, o8, .cells mCat 42], []⟩, sB' (decide (t > 1048576)) true ∧ sB' (decide (t < 0)) false ∧ (CC K ∧ True) ∧ True) := by kernel_rfl
def exE (K t : Int) (l : List Sn) : List Sn := bif inD t then l.filter (keepS K t) else []
theorem pcc2 (p : Option Sn) : ∀ v ∈ pc p, c2 v = true := by
  cases p with
  | none => intro v hv; cases hv
  | some s => exact c2_all rfl
theorem fin7 {ds : AObj} {K : Int} {H0 : Heap} {hl9 : List (Nat × AObj)} {ids : List Nat} {objs : List AObj} (hsg : H0.next = 8)
    (hob : F2 (RS (sg 8 [(8, 8)])) (ids.zip objs) (base ds K hl9)) (e : Ex) (T : List Value) (H : Heap) (he : e.tag = 1) (hr : resA Tryz.prog Tryz.f7 T H = some nilS) (hg : ∀ p ∈ ids.zip objs, H.get p.1 = p.2) :
    (e.to = .normal ∨ e.to = .ret) ∧ (D7.all fun d => quietDefer Tryz.prog d.1 && callable Tryz.prog d.1) = true ∧ ∃ u, resA Tryz.prog Tryz.f7 T H = some u ∧ Nrm Tryz.prog H0.next (mkT 1 [(0, u)] jX') H [] (mkT 1 [(0, nilS)] jX') (H3 ds K 9 hl9) [] := by
  rw [hsg]
  exact ⟨.inr (by rw [tag1 he]; rfl), q18, _, hr, Nrm.mk (k2 := [(0, nilS)]) hg 9 [(8, 8)] rfl (.cons ⟨rfl, .closed rfl⟩ .nil) hob .nil⟩
theorem fin8 {ds : AObj} {K : Int} {H0 : Heap} {hl10 : List (Nat × AObj)} {ids : List Nat} {objs : List AObj} (hsg : H0.next = 9)
    (hob : F2 (RS (sg 9 [(9, 9)])) (ids.zip objs) (base ds K hl10)) (e : Ex) (T : List Value) (H : Heap) (he : e.tag = 1) (hr : resA Tryz.prog Tryz.f8 T H = some nilS) (hg : ∀ p ∈ ids.zip objs, H.get p.1 = p.2) :
    (e.to = .normal ∨ e.to = .ret) ∧ (([] : Defs).all fun d => quietDefer Tryz.prog d.1 && callable Tryz.prog d.1) = true ∧ ∃ u, resA Tryz.prog Tryz.f8 T H = some u ∧ Nrm Tryz.prog H0.next (mkT 1 [(0, u)] jX') H [] (mkT 1 [(0, nilS)] jX') (H3 ds K 10 hl10) [] := by
  rw [hsg]
  exact ⟨.inr (by rw [tag1 he]; rfl), rfl, _, hr, Nrm.mk (k2 := [(0, nilS)]) hg 10 [(9, 9)] rfl (.cons ⟨rfl, .closed rfl⟩ .nil) hob .nil⟩
theorem does7G {ds : AObj} (hds : ∀ σ, RO σ ds ds) {l : List Sn} {p : Option Sn} {K t : Int} (hC : CC K) (hlen : l.length ≤ 8) :
    Does Tryz.prog 7 [.agg mCat.toArray, i64 0, stA l, i64 t] (H3 ds K 8 (stH p l)) (rvE 8 (exE K t l)) (H3 ds K 9 (stH p l ++ [(8, oE (exE K t l))])) := by
  unfold exE
  cases ht : inD t with
  | true =>
    cases l with
    | nil =>
      refine does_of_awpN (X := jX') Tryz.func7 (c := codeOf Tryz.f7 []) rfl (awp_of_awn (n := 8) ?_ (Nat.le_refl _))
      exact pieceF hm cR_sound (oo7a_sound true K) (r7n ds K t) ⟨ht, ⟨hC, trivial⟩, trivial⟩ fun e T H he hr _ hg => fin7 rfl (cat_rs (fun j hj => sg8 j (by omega)) hds (.cons ⟨rfl, .dead _⟩ .nil)) e T H he hr hg
    | cons x r => exact does7 hds (l := x :: r) (fun σ => .grow (rv_pb p (x :: r))) hC ht hlen
  | false =>
    cases l with
    | nil =>
      refine does_of_awpN (X := jX') Tryz.func7 (c := codeOf Tryz.f7 []) rfl (awp_of_awn (n := 8) ?_ (Nat.le_refl _))
      exact pieceF hm cR_sound (oo7a_sound false K) (r7zn ds K t) ⟨ht, ⟨hC, trivial⟩, trivial⟩ fun e T H he hr _ hg => fin7 rfl (cat_rs (fun j hj => sg8 j (by omega)) hds (.cons ⟨rfl, .dead _⟩ .nil)) e T H he hr hg
    | cons x r =>
      refine does_of_awpN (X := jX') Tryz.func7 (c := codeOf Tryz.f7 []) rfl (awp_of_awn (n := 8) ?_ (Nat.le_refl _))
      exact pieceF hm cR_sound (oo7a_sound false K) (r7zc ds (.grow ((x :: r).flatMap Sn.a) 46) (.grow (pc p ++ (x :: r).flatMap Sn.b) 46) K t _) ⟨ht, ⟨hC, trivial⟩, trivial⟩ fun e T H he hr _ hg => fin7 rfl (cat_rs (fun j hj => sg8 j (by omega)) hds (.cons ⟨rfl, .grow (rv_a _)⟩ (.cons ⟨rfl, .grow (rv_pb p _)⟩ (.cons ⟨rfl, .dead _⟩ .nil)))) e T H he hr hg
theorem inD_false {t : Int} (h : inD t = false) : t < 0 ∨ (0 ≤ t ∧ 1048576 < t) := by
  by_cases h0 : 0 ≤ t
  · right
    refine ⟨h0, ?_⟩
    simp [inD, h0] at h
    omega
  · left; omega
theorem does8G {ds : AObj} (hds : ∀ σ, RO σ ds ds) {l os : List Sn} {p : Option Sn} {K t : Int} (hC : CC K) (hlen : l.length ≤ 8) :
    Does Tryz.prog 8 [.agg mCat.toArray, i64 0, stB p l, i64 t] (H3 ds K 9 (stH p l ++ [(8, oE os)])) (rvE 9 (exE K t l)) (H3 ds K 10 (stH p l ++ [(8, oE os), (9, oF (exE K t l))])) := by
  unfold exE
  cases ht : inD t with
  | true =>
    cases l with
    | nil =>
      have ht' := ht
      simp only [inD, Bool.and_eq_true, decide_eq_true_eq] at ht'
      refine does_of_awpN (X := jX') Tryz.func8 (c := codeOf Tryz.f8 []) rfl (awp_of_awn (n := 9) ?_ (Nat.le_refl _))
      exact pieceF hm cR_sound (oo8a_sound false false K) (r8nn ds (oE os) K t) ⟨by rw [decide_eq_false (by omega)], by rw [decide_eq_false (by omega)], ⟨hC, trivial⟩, trivial⟩ fun e T H he hr _ hg => fin8 rfl (cat_rs (fun j hj => sg9 j (by omega)) hds (.cons ⟨rfl, ro_oE _⟩ (.cons ⟨rfl, .dead _⟩ .nil))) e T H he hr hg
    | cons x r =>
      cases p with
      | none => exact does8 hds (l := x :: r) (q := pc none) (fun σ => .grow (rv_a _)) (fun σ => ro_oE os) (pcc2 none) hC ht hlen
      | some s => exact does8 hds (l := x :: r) (q := pc (some s)) (fun σ => .grow (rv_a _)) (fun σ => ro_oE os) (pcc2 (some s)) hC ht hlen
  | false =>
    rcases inD_false ht with h0 | ⟨h0, h1⟩
    · cases l with
      | nil =>
        refine does_of_awpN (X := jX') Tryz.func8 (c := codeOf Tryz.f8 []) rfl (awp_of_awn (n := 9) ?_ (Nat.le_refl _))
        exact pieceF hm cR_sound (oo8a_sound true false K) (r8n1 ds (oE os) K t) ⟨by rw [decide_eq_true h0], ⟨hC, trivial⟩, trivial⟩ fun e T H he hr _ hg => fin8 rfl (cat_rs (fun j hj => sg9 j (by omega)) hds (.cons ⟨rfl, ro_oE _⟩ (.cons ⟨rfl, .dead _⟩ .nil))) e T H he hr hg
      | cons x r =>
        refine does_of_awpN (X := jX') Tryz.func8 (c := codeOf Tryz.f8 []) rfl (awp_of_awn (n := 9) ?_ (Nat.le_refl _))
        exact pieceF hm cR_sound (oo8a_sound true false K) (r8c1 ds (.grow ((x :: r).flatMap Sn.a) 46) (.grow (pc p ++ (x :: r).flatMap Sn.b) 46) (oE os) K t _) ⟨by rw [decide_eq_true h0], ⟨hC, trivial⟩, trivial⟩ fun e T H he hr _ hg => fin8 rfl (cat_rs (fun j hj => sg9 j (by omega)) hds (.cons ⟨rfl, .grow (rv_a _)⟩ (.cons ⟨rfl, .grow (rv_pb p _)⟩ (.cons ⟨rfl, ro_oE _⟩ (.cons ⟨rfl, .dead _⟩ .nil))))) e T H he hr hg
    · cases l with
      | nil =>
        refine does_of_awpN (X := jX') Tryz.func8 (c := codeOf Tryz.f8 []) rfl (awp_of_awn (n := 9) ?_ (Nat.le_refl _))
        exact pieceF hm cR_sound (oo8a_sound false true K) (r8n2 ds (oE os) K t) ⟨by rw [decide_eq_true h1], by rw [decide_eq_false (by omega)], ⟨hC, trivial⟩, trivial⟩ fun e T H he hr _ hg => fin8 rfl (cat_rs (fun j hj => sg9 j (by omega)) hds (.cons ⟨rfl, ro_oE _⟩ (.cons ⟨rfl, .dead _⟩ .nil))) e T H he hr hg
      | cons x r =>
        refine does_of_awpN (X := jX') Tryz.func8 (c := codeOf Tryz.f8 []) rfl (awp_of_awn (n := 9) ?_ (Nat.le_refl _))
        exact pieceF hm cR_sound (oo8a_sound false true K) (r8c2 ds (.grow ((x :: r).flatMap Sn.a) 46) (.grow (pc p ++ (x :: r).flatMap Sn.b) 46) (oE os) K t _) ⟨by rw [decide_eq_true h1], by rw [decide_eq_false (by omega)], ⟨hC, trivial⟩, trivial⟩ fun e T H he hr _ hg => fin8 rfl (cat_rs (fun j hj => sg9 j (by omega)) hds (.cons ⟨rfl, .grow (rv_a _)⟩ (.cons ⟨rfl, .grow (rv_pb p _)⟩ (.cons ⟨rfl, ro_oE _⟩ (.cons ⟨rfl, .dead _⟩ .nil))))) e T H he hr hg
end Go.Abs

