/- For every manifest, seed and index the statements ManifestSigns and ManifestAccepts of law 40 hold, with no condition. -/
import Derived.Test.YtkkocgjpfakfpaaGreatWSf
set_option linter.unusedSimpArgs false
set_option linter.unusedVariables false
namespace Go.Abs
open Go.Proofs
set_option maxRecDepth 1000000

theorem wrap15 {d : Nat} (h : d ≤ 15) : IntKind.i64.wrap (15 - (d : Int)) = ((15 - d : Nat) : Int) := by
  rw [wrapI (by omega) (by omega)]; omega
theorem ob57 {bs : List Int} {ps : List (List Int)} {o4 : AObj} {r : List Int} {si : Int} {a5 : Option Addr} {n5 c5 : Nat} {ss : List (List Int)} (h5 : SL 2 a5 n5 c5 o4 ss.length (flatD ss)) {n : Nat} {σ : List (Nat × Nat)} (h : ∀ j, j < 8 → sg n σ j = some j) {is : List Nat} {os : List AObj} {l : List (Nat × AObj)} (ho : F2 (fun (p q : Nat × AObj) => sg n σ q.1 = some p.1 ∧ RO (sg n σ) p.2 q.2) (is.zip os) l) :
    F2 (fun (p q : Nat × AObj) => sg n σ q.1 = some p.1 ∧ RO (sg n σ) p.2 q.2) (([0,1,2,3,4,5,6,7] ++ is).zip (v57 (bytes bs) (flatD ps) o4 (bytes r) si (.slice a5 n5 c5) (digV bs) ++ os)) (l57 (bytes bs) (flatD ps) o4 (bytes r) si (.slice a5 n5 c5) (digV bs) ++ l) :=
  .cons ⟨h 0 (by omega), .ro (RV.all bytes_c2)⟩ (.cons ⟨h 1 (by omega), .ro (RV.all flatD_c2)⟩ (.cons ⟨h 2 (by omega), h5.ro⟩ (.cons ⟨h 3 (by omega), .cells (RV.all bytes_c2)⟩ (.cons ⟨h 4 (by omega), .cells (.cons (.closed rfl) (.cons (.slice (h 1 (by omega))) (.cons (.closed rfl) (.cons (.closed rfl) (.cons (h5.rv (h 2 (by omega))) .nil)))))⟩ (.cons ⟨h 5 (by omega), ro_one rfl⟩ (.cons ⟨h 6 (by omega), .cells (RV.all digV_c2)⟩ (.cons ⟨h 7 (by omega), .cells (.cons (.slice (h 6 (by omega))) .nil)⟩ ho)))))))
theorem does88V {bs : List Int} {ps : List (List Int)} {o4 : AObj} {r : List Int} {si : Int} {a5 : Option Addr} {n5 c5 : Nat} {ss : List (List Int)} (h5 : SL 2 a5 n5 c5 o4 ss.length (flatD ss)) (h32 : ∀ d ∈ ps, d.length = 32) (hl : ps.length = 35) :
    Does Tryz.prog 88 [i64 35, cV] (mkH 8 (l57 (bytes bs) (flatD ps) o4 (bytes r) si (.slice a5 n5 c5) (digV bs)) []) (sl 8 35) ((mkH 8 (l57 (bytes bs) (flatD ps) o4 (bytes r) si (.slice a5 n5 c5) (digV bs)) []).push (grD (lastS ps bs))) := by
  have h9 : ∀ j, j < 8 → sg 8 [(8, 8)] j = some j := fun j hj => by
    have : Nat.blt j 8 = true := by simpa [Nat.blt_eq] using hj
    simp [sg, this]
  have hro : ∀ (zs : List (List Int)), F2 (fun (p q : Nat × AObj) => sg 8 [(8, 8)] q.1 = some p.1 ∧ RO (sg 8 [(8, 8)]) p.2 q.2) (([0,1,2,3,4,5,6,7,8] : List Nat).zip (v57 (bytes bs) (flatD ps) o4 (bytes r) si (.slice a5 n5 c5) (digV bs) ++ [.grow (flatD zs) 26])) (l57 (bytes bs) (flatD ps) o4 (bytes r) si (.slice a5 n5 c5) (digV bs) ++ [(8, grD zs)]) := fun zs =>
    ob57 (is := [8]) h5 h9 (.cons ⟨rfl, RO.grD⟩ .nil)
  have hcl : RV (sg 8 [(8, 8)]) cV cV := .clos (l := [pt 4, pt 7]) (m := [pt 4, pt 7]) (.cons (.ptr rfl) (.cons (.ptr rfl) .nil))
  have hL32 := lastS_32 (bs := bs) h32 hl
  refine list88 (b := 8) (n := 35) (B := l57 (bytes bs) (flatD ps) o4 (bytes r) si (.slice a5 n5 c5) (digV bs)) (lastS_len ps bs) rfl ?_ ?_ ?_ (fun o => rfl)
  · intro Q hQ
    have hz := zeros_flat 35
    refine pieceSX pCall_sound mkG_sound 1 (r88V (bytes bs) (flatD ps) o4 (bytes r) si a5 n5 c5 (digV bs) (flatD (List.replicate 35 zl))) rfl ⟨⟨by omega, by omega, by omega, by omega, by omega, rfl, by omega, by rw [hz]; rfl⟩, trivial⟩ rfl 9 [(8, 8)] (k2 := [(0, i64 35), (1, cV), (5, sl 8 35)]) rfl (.cons ⟨rfl, .closed rfl⟩ (.cons ⟨rfl, hcl⟩ (.cons ⟨rfl, .slice rfl⟩ .nil))) (hro (List.replicate 35 zl)) .nil ?_
    rw [curD_0, lastS_len] at hQ
    exact hQ
  · intro c hc x Q hQ
    obtain ⟨hx, hx2⟩ := getD_32 h32 (i := c) (by omega)
    obtain ⟨hd1, hd2⟩ := digS_at bs hc
    have hat := lastS_at (ps := ps) (bs := bs) hc
    generalize (digS bs).getD c 0 = d at *
    generalize ps.getD c [] = p at *
    have hy := lnkS_len (15 - d) hx
    have hr := r88W (bytes bs) (flatD ps) o4 (bytes r) si a5 n5 c5 (digV bs) (flatD (curD (lastS ps bs) c)) (fn p) (fn (lnkS (15 - d) p)) c d (15 - d) x
    rw [show dgf (fn p) = p from dgf_of hx, show dgf (fn (lnkS (15 - d) p)) = lnkS (15 - d) p from dgf_of hy, cw, wrap_i1 (by omega), Nat.zero_add, Nat.zero_add, curD_step hL32 hat] at hr
    refine pieceEX pCall_sound (ooW_sound _ _ _ _) hr ⟨⟨by rw [bytes_len, hy], by rw [flatD_len (curD_32 hL32 c), curD_len _ (by rw [lastS_len]; omega), lastS_len]; omega, bytes_one'⟩, ⟨by omega, by omega⟩, ⟨⟨hx, rfl, wrap15 hd2, by omega, rfl⟩, ldC_one (by rw [Nat.mul_one]; exact hd1), ⟨by omega, by omega⟩, by have := flatD_at h32 hx2; rwa [Nat.zero_add] at this, ⟨by omega, by omega⟩, trivial⟩, trivial⟩ rfl 9 [(8, 8)] (k2 := [(1, cV), (5, sl 8 35), (9, i64 35), (10, i64 ((c + 1 : Nat) : Int))]) rfl (.cons ⟨rfl, hcl⟩ (.cons ⟨rfl, .slice rfl⟩ (.cons ⟨rfl, .closed rfl⟩ (.cons ⟨rfl, .closed rfl⟩ .nil)))) (hro _) .nil ?_
    exact hQ
  · intro o
    refine ⟨by show 8 ≤ 9; omega, fun id hid => ?_⟩
    have : id = 0 ∨ id = 1 ∨ id = 2 ∨ id = 3 ∨ id = 4 ∨ id = 5 ∨ id = 6 ∨ id = 7 := by have : id < 8 := hid; omega
    rcases this with rfl | rfl | rfl | rfl | rfl | rfl | rfl | rfl <;> rfl
structure L88V (bs : List Int) (ps : List (List Int)) (o4 : AObj) (r : List Int) (si : Int) (a5 : Option Addr) (n5 c5 : Nat) (ss es : List (List Int)) (args : List Value) (H : Heap) : Prop where
  ha : args = [i64 35, cV]
  hH : H = mkH 8 (l57 (bytes bs) (flatD ps) o4 (bytes r) si (.slice a5 n5 c5) (digV bs)) []
  h5 : SL 2 a5 n5 c5 o4 ss.length (flatD ss)
  h32 : ∀ d ∈ ps, d.length = 32
  hl : ps.length = 35
  he : es = lastS ps bs
def g88V (bs : List Int) (ps : List (List Int)) (o4 : AObj) (r : List Int) (si : Int) (a5 : Option Addr) (n5 c5 : Nat) (ss es : List (List Int)) : List Value → Heap → Option CallR := fun args H => match args with
  | [.int .i64 _, .func (.func 98) _ _] => some (.eff (sl H.next 35) (H.push (grD es)) (L88V bs ps o4 r si a5 n5 c5 ss es args H))
  | _ => none
theorem l88V (bs : List Int) (ps : List (List Int)) (o4 : AObj) (r : List Int) (si : Int) (a5 : Option Addr) (n5 c5 : Nat) (ss es : List (List Int)) : SoundC Tryz.prog (oneC 88 (g88V bs ps o4 r si a5 n5 c5 ss es)) := oneC_sound fun args H q h => by
  unfold g88V at h
  split at h
  case h_2 => cases h
  cases h
  rintro ⟨h1, rfl, h3, h4, h5, rfl⟩
  rw [h1]
  exact does88V h3 h4 h5
noncomputable def oo57e (bs : List Int) (ps : List (List Int)) (o4 : AObj) (r lf : Nat → Int) (si : Int) (a5 : Option Addr) (n5 c5 : Nat) (ss es : List (List Int)) (bb : Bool) : OpO := orO (callO Tryz.prog (oneC 88 (g88V bs ps o4 (dgf r) si a5 n5 c5 ss es))) (orO (callO Tryz.prog (oneC 99 (slG es (dgf lf)))) (callO Tryz.prog (oneC 44 (vrG si ss (dgf lf) (dgf r) bb))))
theorem oo57e_sound (bs : List Int) (ps : List (List Int)) (o4 : AObj) (r lf : Nat → Int) (si : Int) (a5 : Option Addr) (n5 c5 : Nat) (ss es : List (List Int)) (bb : Bool) : SoundO Tryz.prog (oo57e bs ps o4 r lf si a5 n5 c5 ss es bb) := orO_sound (callO_sound (l88V _ _ _ _ _ _ _ _ _ _)) (orO_sound (callO_sound (sl99 _ _)) (callO_sound (vr44 _ _ _ _ _)))
theorem r57e (bs : List Int) (ps : List (List Int)) (o4 : AObj) (r lf : Nat → Int) (si : Int) (a5 : Option Addr) (n5 c5 : Nat) (ss es : List (List Int)) (bb : Bool) : (ex3 Tryz.prog pCall (oo57e bs ps o4 r lf si a5 n5 c5 ss es bb) 60 (codeOf Tryz.f57 [1,1,1,1]) ⟨⟨mkT 38 [(3, pt 3), (5, pt 4), (6, pt 5), (7, pt 7)] jX, mkH 8 (l57 (bytes bs) (flatD ps) o4 (bytes (dgf r)) si (.slice a5 n5 c5) (digV bs)) [], D57⟩, True⟩).map (fin3 Tryz.prog Tryz.f57 [0,1,2])
  = some (⟨1, some (.bool bb), 9, [.ro (bytes bs), .ro (flatD ps), o4], D57⟩,
    VrC si ss (dgf lf) (dgf r) bb (dig (dgf r)) (dig (dgf lf)) si 4 a5 n5 c5 ⟨9, (8, grD es) :: l57 (bytes bs) (flatD ps) o4 (bytes (dgf r)) si (.slice a5 n5 c5) (digV bs)⟩ ∧ (SliC es 35 0 (flatD es) ∧ 35 = 35 ∧ dgf lf = sleafS es) ∧ L88V bs ps o4 (dgf r) si a5 n5 c5 ss es [i64 35, cV] (mkH 8 (l57 (bytes bs) (flatD ps) o4 (bytes (dgf r)) si (.slice a5 n5 c5) (digV bs)) []) ∧ True) := by kernel_rfl
/-- Whether a signature is accepted. -/
def verS (si pi pc : Int) (ps ss : List (List Int)) (bs r : List Int) : Bool := decide (ps.length = 35 ∧ pi = si ∧ pc = 4) && vrS si ss (sleafS (lastS ps bs)) r
theorem keep3' {o0 o1 o2 : AObj} {H : Heap} (h1 : 3 ≤ H.next) (g0 : H.get 0 = o0) (g1 : H.get 1 = o1) (g2 : H.get 2 = o2) : Keep (h57 o0 o1 o2) H := keep3 h1 g0 g1 g2
theorem does57 {bs r : List Int} (hb : bs.length ≤ 1000000) (hr : r.length = 32) {si pi pc : Int} {a4 a5 : Option Addr} {n4 c4 n5 c5 : Nat} {o3 o4 : AObj} {ps ss : List (List Int)} (h4 : SL 1 a4 n4 c4 o3 ps.length (flatD ps)) (h5 : SL 2 a5 n5 c5 o4 ss.length (flatD ss)) (hp : ∀ d ∈ ps, d.length = 32) (hs : ∀ d ∈ ss, d.length = 32) (hl : ss.length ≤ 100) :
    Does Tryz.prog 57 [dig r, sl 0 bs.length, .agg (sgW si (.slice a4 n4 c4) pi pc (.slice a5 n5 c5)).toArray] (h57 (.ro (bytes bs)) o3 o4) (.bool (verS si pi pc ps ss bs r)) (h57 (.ro (bytes bs)) o3 o4) := by
  refine val_of_awp Tryz.func57 (c := codeOf Tryz.f57 []) rfl rfl (awp_of_awn (n := 3) ?_ (Nat.le_refl _))
  have hfr : dgf (fn r) = r := dgf_of hr
  have hn := h4.n
  by_cases c1 : ps.length = 35
  case neg =>
    have e : verS si pi pc ps ss bs r = false := by unfold verS; rw [decide_eq_false (fun h => c1 h.1)]; rfl
    have hrr := r57a (.ro (bytes bs)) o3 o4 (fn r) bs.length si pi pc a4 n4 c4 (.slice a5 n5 c5)
    rw [hfr] at hrr
    rw [e]
    refine pieceF hm pCall_sound forceO_sound hrr ⟨by rw [show ((n4 : Int) != 35) = true by simp; omega], trivial⟩ ?_
    intro e T H he hr hn hg
    cases tag1 he
    exact ⟨.inr rfl, rfl, _, hr, rfl, keep3' (by rw [hn]; show 3 ≤ 6; omega) (hg (0, _) (.head _)) (hg (1, _) (.tail _ (.head _))) (hg (2, _) (.tail _ (.tail _ (.head _))))⟩
  have hn4 : ((n4 : Int) != 35) = false := by simp; omega
  by_cases c2 : pi = si
  case neg =>
    have e : verS si pi pc ps ss bs r = false := by unfold verS; rw [decide_eq_false (fun h => c2 h.2.1)]; rfl
    have hrr := r57b (.ro (bytes bs)) o3 o4 (fn r) bs.length si pi pc a4 n4 c4 (.slice a5 n5 c5)
    rw [hfr] at hrr
    rw [e]
    refine pieceF hm pCall_sound (orO_sound forceO_sound forceO_sound) hrr ⟨by rw [show (pi != si) = true by simpa using c2], by rw [hn4], trivial⟩ ?_
    intro e T H he hr hn hg
    cases tag1 he
    exact ⟨.inr rfl, rfl, _, hr, rfl, keep3' (by rw [hn]; show 3 ≤ 6; omega) (hg (0, _) (.head _)) (hg (1, _) (.tail _ (.head _))) (hg (2, _) (.tail _ (.tail _ (.head _))))⟩
  subst c2
  by_cases c3 : pc = 4
  case neg =>
    have e : verS pi pi pc ps ss bs r = false := by unfold verS; rw [decide_eq_false (fun h => c3 h.2.2)]; rfl
    have hrr := r57c (.ro (bytes bs)) o3 o4 (fn r) bs.length pi pi pc a4 n4 c4 (.slice a5 n5 c5)
    rw [hfr] at hrr
    rw [e]
    refine pieceF hm pCall_sound (orO_sound forceO_sound (orO_sound forceO_sound forceO_sound)) hrr ⟨by rw [show (pc != 4) = true by simpa using c3], by rw [show (pi != pi) = false by simp], by rw [hn4], trivial⟩ ?_
    intro e T H he hr hn hg
    cases tag1 he
    exact ⟨.inr rfl, rfl, _, hr, rfl, keep3' (by rw [hn]; show 3 ≤ 6; omega) (hg (0, _) (.head _)) (hg (1, _) (.tail _ (.head _))) (hg (2, _) (.tail _ (.tail _ (.head _))))⟩
  subst c3
  obtain ⟨rfl, rfl, rfl⟩ := h4.pos (by omega)
  have hn35 : n4 = 35 := by omega
  subst hn35
  have e : verS pi pi 4 ps ss bs r = vrS pi ss (sleafS (lastS ps bs)) r := by unfold verS; rw [decide_eq_true ⟨c1, rfl, rfl⟩]; rfl
  rw [e]
  have hrd := r57d (bytes bs) (flatD ps) o4 (fn r) bs.length pi a5 n5 c5 bs (digV bs)
  rw [hfr] at hrd
  refine pieceSX pCall_sound (orO_sound forceO_sound (callO_sound (dg87_sound _ _))) 3 hrd rfl ⟨⟨hb, rfl, by rw [List.drop_zero, ← bytes_len bs, List.take_length], by rw [bytes_len]; omega, rfl⟩, by rw [show (pi != pi) = false by simp], trivial⟩ rfl 8 [(3, 3), (4, 4), (5, 5), (6, 6), (7, 7)] (k2 := [(3, pt 3), (5, pt 4), (6, pt 5), (7, pt 7)]) (os2 := l57 (bytes bs) (flatD ps) o4 (bytes r) pi (.slice a5 n5 c5) (digV bs)) (D2 := D57) rfl
    (.cons ⟨rfl, .ptr rfl⟩ (.cons ⟨rfl, .ptr rfl⟩ (.cons ⟨rfl, .ptr rfl⟩ (.cons ⟨rfl, .ptr rfl⟩ .nil))))
    (ob57 (is := []) (os := []) (l := []) h5 (fun j hj => by
      have : j = 0 ∨ j = 1 ∨ j = 2 ∨ j = 3 ∨ j = 4 ∨ j = 5 ∨ j = 6 ∨ j = 7 := by omega
      rcases this with rfl | rfl | rfl | rfl | rfl | rfl | rfl | rfl <;> rfl) .nil) (.cons ⟨rfl, .cons (.ptr rfl) .nil⟩ .nil) ?_
  have hfl : dgf (fn (sleafS (lastS ps bs))) = sleafS (lastS ps bs) := dgf_of (sleafS_len _)
  have hre := r57e bs ps o4 (fn r) (fn (sleafS (lastS ps bs))) pi a5 n5 c5 ss (lastS ps bs) (vrS pi ss (sleafS (lastS ps bs)) r)
  have hse := sliC_self (ls := lastS ps bs) (lastS_32 hp c1)
  rw [lastS_len] at hse
  rw [hfr, hfl] at hre
  have so := oo57e_sound bs ps o4 (fn r) (fn (sleafS (lastS ps bs))) pi a5 n5 c5 ss (lastS ps bs) (vrS pi ss (sleafS (lastS ps bs)) r)
  refine pieceF hm pCall_sound so hre ⟨⟨hr, rfl, sleafS_len _, rfl, rfl, rfl, h5.slh rfl, hs, hl, rfl⟩, ⟨hse, rfl, rfl⟩, ⟨rfl, rfl, h5, hp, c1, rfl⟩, trivial⟩ ?_
  intro e T H he hr hn hg
  cases tag1 he
  exact ⟨.inr rfl, rfl, _, hr, rfl, keep3' (by rw [hn]; show 3 ≤ 9; omega) (hg (0, _) (.head _)) (hg (1, _) (.tail _ (.head _))) (hg (2, _) (.tail _ (.tail _ (.head _))))⟩
end Go.Abs

namespace Go.Abs
open Go.Proofs
set_option maxRecDepth 1000000

noncomputable def oo58 (bs : List Int) (ds : List Value) : OpO := orO (forceO Tryz.prog 20 (.bool false)) (callO Tryz.prog (oneC 92 (dg92 bs ds)))
abbrev l58 (cs qs : List Value) (o4 : AObj) (r : List Value) (si : Int) (w : Value) (ds : List Value) : List (Nat × AObj) := [(0, .ro cs), (1, .ro qs), (2, o4), (3, .cells r 26), (4, .cells (sgW si (sl 1 35) si 4 w) 31), (5, .grow ds 3)]
abbrev v58 (cs qs : List Value) (o4 : AObj) (r : List Value) (si : Int) (w : Value) (ds : List Value) : List AObj := [.ro cs, .ro qs, o4, .cells r 26, .cells (sgW si (sl 1 35) si 4 w) 31, .grow ds 3]
abbrev k58 (u : Value) : List (Nat × Value) := [(3, pt 3), (5, pt 4), (6, .bool false), (7, sl 5 35), (8, u)]
theorem r58d (cs qs : List Value) (o4 : AObj) (r : Nat → Int) (n : Nat) (si : Int) (a5 : Option Addr) (n5 c5 : Nat) (bs : List Int) (ds : List Value) : (ex3 Tryz.prog pCall (oo58 bs ds) 60 (pre 3 (codeOf Tryz.f58 [])) ⟨⟨[dig (dgf r), sl 0 n, .agg (sgW si (sl 1 35) si 4 (.slice a5 n5 c5)).toArray] ++ List.replicate 51 undef, h57 (.ro cs) (.ro qs) o4, []⟩, True⟩).map (obs3 [3,5,6,7,8] [0,1,2,3,4,5])
  = some (⟨0, [pt 3, pt 4, .bool false, sl 5 35, nilS], 54, 6, v58 cs qs o4 (bytes (dgf r)) si (.slice a5 n5 c5) ds, []⟩, DgC bs ds n 0 cs ∧ some (Value.bool (si != si)) = some (Value.bool false) ∧ True) := by kernel_rfl
theorem r58f (H : Heap) : (ex3 Tryz.prog pCall noOO 60 (pre 0 (codeOf Tryz.f58 [1,1,1,1,0])) ⟨⟨mkT 54 (k58 nilS) jX, H, []⟩, True⟩).map (obsQ [3,5,6,7,8,9])
  = some (⟨0, [pt 3, pt 4, .bool false, sl 5 35, nilS, i64 ((0 : Nat) : Int)], 54, H, []⟩, True) := by kernel_rfl
abbrev T58 (u : Value) (j : Nat) : List Value := mkT 54 (k58 u ++ [(9, i64 (j : Int))]) jX
abbrev T58b (u : Value) (j : Nat) (b : Value) : List Value := mkT 54 (k58 u ++ [(9, i64 (j : Int)), (31, b)]) jX
theorem r58h0 (u : Value) (j : Nat) (H : Heap) : (ex3 Tryz.prog pCall noOO 60 (pre 0 (codeOf Tryz.f58 [1,1,1,1,0,1,0,0,0])) ⟨⟨T58 u j, H, []⟩, True⟩).map (obsQ [3,5,6,7,8,9,31])
  = some (⟨0, [pt 3, pt 4, .bool false, sl 5 35, u, i64 (j : Int), .bool (decide ((j : Int) < 35))], 54, H, []⟩, True) := by kernel_rfl
noncomputable def oo58a (x y : Nat → Int) (d e : Nat) : OpO := orO (callO Tryz.prog (oneC 93 (lkG (dgf x) e (dgf y)))) (orO (idxO Tryz.prog 38) (orO (ldO Tryz.prog 39 (dig (dgf x))) (orO (idxO Tryz.prog 42) (orO (ldO Tryz.prog 43 (i64 (d : Int))) (appO Tryz.prog 47)))))
theorem oo58a_sound (x y : Nat → Int) (d e : Nat) : SoundO Tryz.prog (oo58a x y d e) := orO_sound (callO_sound (lk93 _ _ _)) (orO_sound idxO_sound (orO_sound ldO_sound (orO_sound idxO_sound (orO_sound ldO_sound appO_sound))))
abbrev C58 (x y : Nat → Int) (j d e : Nat) (qs ds : List Value) : Prop := LkC (dgf x) e (dgf y) (dig (dgf x)) (IntKind.i64.wrap (15 - (d : Int))) ∧ LdC Tryz.prog 3 (some ds) (0 + j * 1) (i64 (d : Int)) ∧ ((0 : Int) ≤ (j : Int) ∧ (j : Int) < 35) ∧ LdC Tryz.prog 26 (some qs) (0 + j * 32) (dig (dgf x)) ∧ ((0 : Int) ≤ (j : Int) ∧ (j : Int) < 35) ∧ True
theorem r58g (cs qs : List Value) (o4 o6 : AObj) (r : List Value) (si : Int) (a5 : Option Addr) (n5 c5 : Nat) (ds : List Value) (x y : Nat → Int) (j d e : Nat) (b : Value) : (ex3 Tryz.prog pCall (oo58a x y d e) 60 (codeOf Tryz.f58 [1,1,1,1,0,1,0,0,1]) ⟨⟨T58b nilS j b, mkH 7 (l58 cs qs o4 r si (.slice a5 n5 c5) ds ++ [(6, o6)]) [], []⟩, True⟩).map (obs3 [3,5,6,7,8,9] [0,1,2,3,4,5,8])
  = some (⟨0, [pt 3, pt 4, .bool false, sl 5 35, sl 8 1, cw j], 54, 9, v58 cs qs o4 r si (.slice a5 n5 c5) ds ++ [.grow (bytes (dgf y)) 26], []⟩, C58 x y j d e qs ds) := by kernel_rfl
theorem r58h (cs qs es : List Value) (o4 : AObj) (r : List Value) (si : Int) (a5 : Option Addr) (n5 c5 : Nat) (ds : List Value) (x y : Nat → Int) (j d e k : Nat) (b : Value) : (ex3 Tryz.prog pCall (oo58a x y d e) 60 (codeOf Tryz.f58 [1,1,1,1,0,1,0,0,1]) ⟨⟨T58b (sl 6 k) j b, mkH 7 (l58 cs qs o4 r si (.slice a5 n5 c5) ds ++ [(6, .grow es 26)]) [], []⟩, True⟩).map (obs3 [3,5,6,7,8,9] [0,1,2,3,4,5,8])
  = some (⟨0, [pt 3, pt 4, .bool false, sl 5 35, sl 8 (k + 1), cw j], 54, 9, v58 cs qs o4 r si (.slice a5 n5 c5) ds ++ [.grow (es.take (k * (31 + 1)) ++ bytes (dgf y)) 26], []⟩, AppC 32 31 32 26 26 0 capG k 1 0 es (bytes (dgf y)) ∧ C58 x y j d e qs ds) := by kernel_rfl
noncomputable def oo58e (r lf : Nat → Int) (si : Int) (ss es : List (List Int)) (bb : Bool) : OpO := orO (callO Tryz.prog (oneC 95 (slG es (dgf lf)))) (callO Tryz.prog (oneC 45 (vrG si ss (dgf lf) (dgf r) bb)))
theorem oo58e_sound (r lf : Nat → Int) (si : Int) (ss es : List (List Int)) (bb : Bool) : SoundO Tryz.prog (oo58e r lf si ss es bb) := orO_sound (callO_sound (sl95 _ _)) (callO_sound (vr45 _ _ _ _ _))
theorem r58e (cs qs : List Value) (o4 : AObj) (r lf : Nat → Int) (si : Int) (a5 : Option Addr) (n5 c5 : Nat) (ds : List Value) (ss es : List (List Int)) (bb : Bool) (j : Nat) (b : Value) : (ex3 Tryz.prog pCall (oo58e r lf si ss es bb) 60 (codeOf Tryz.f58 [1,1,1,1,1]) ⟨⟨T58b (sl 6 35) j b, mkH 7 (l58 cs qs o4 (bytes (dgf r)) si (.slice a5 n5 c5) ds ++ [(6, grD es)]) [], []⟩, True⟩).map (fin3 Tryz.prog Tryz.f58 [0,1,2])
  = some (⟨1, some (.bool bb), 7, [.ro cs, .ro qs, o4], []⟩,
    VrC si ss (dgf lf) (dgf r) bb (dig (dgf r)) (dig (dgf lf)) si 4 a5 n5 c5 (mkH 7 (l58 cs qs o4 (bytes (dgf r)) si (.slice a5 n5 c5) ds ++ [(6, grD es)]) []) ∧ (SliC es 35 0 (flatD es) ∧ 35 = 35 ∧ dgf lf = sleafS es) ∧ True) := by kernel_rfl
theorem ob58 {bs : List Int} {ps : List (List Int)} {o4 : AObj} {r : List Int} {si : Int} {a5 : Option Addr} {n5 c5 : Nat} {ss : List (List Int)} (h5 : SL 2 a5 n5 c5 o4 ss.length (flatD ss)) {n : Nat} {σ : List (Nat × Nat)} (h : ∀ j, j < 6 → sg n σ j = some j) {is : List Nat} {os : List AObj} {l : List (Nat × AObj)} (ho : F2 (fun (p q : Nat × AObj) => sg n σ q.1 = some p.1 ∧ RO (sg n σ) p.2 q.2) (is.zip os) l) :
    F2 (fun (p q : Nat × AObj) => sg n σ q.1 = some p.1 ∧ RO (sg n σ) p.2 q.2) (([0,1,2,3,4,5] ++ is).zip (v58 (bytes bs) (flatD ps) o4 (bytes r) si (.slice a5 n5 c5) (digV bs) ++ os)) (l58 (bytes bs) (flatD ps) o4 (bytes r) si (.slice a5 n5 c5) (digV bs) ++ l) :=
  .cons ⟨h 0 (by omega), .ro (RV.all bytes_c2)⟩ (.cons ⟨h 1 (by omega), .ro (RV.all flatD_c2)⟩ (.cons ⟨h 2 (by omega), h5.ro⟩ (.cons ⟨h 3 (by omega), .cells (RV.all bytes_c2)⟩ (.cons ⟨h 4 (by omega), .cells (.cons (.closed rfl) (.cons (.slice (h 1 (by omega))) (.cons (.closed rfl) (.cons (.closed rfl) (.cons (h5.rv (h 2 (by omega))) .nil)))))⟩ (.cons ⟨h 5 (by omega), .grow (RV.all digV_c2)⟩ ho)))))
theorem does58 {bs r : List Int} (hb : bs.length ≤ 1000000) (hr : r.length = 32) {si pi pc : Int} {a4 a5 : Option Addr} {n4 c4 n5 c5 : Nat} {o3 o4 : AObj} {ps ss : List (List Int)} (h4 : SL 1 a4 n4 c4 o3 ps.length (flatD ps)) (h5 : SL 2 a5 n5 c5 o4 ss.length (flatD ss)) (hp : ∀ d ∈ ps, d.length = 32) (hs : ∀ d ∈ ss, d.length = 32) (hl : ss.length ≤ 100) :
    Does Tryz.prog 58 [dig r, sl 0 bs.length, .agg (sgW si (.slice a4 n4 c4) pi pc (.slice a5 n5 c5)).toArray] (h57 (.ro (bytes bs)) o3 o4) (.bool (verS si pi pc ps ss bs r)) (h57 (.ro (bytes bs)) o3 o4) := by
  refine val_of_awp Tryz.func58 (c := codeOf Tryz.f58 []) rfl rfl (awp_of_awn (n := 3) ?_ (Nat.le_refl _))
  have hfr : dgf (fn r) = r := dgf_of hr
  have hn := h4.n
  by_cases c1 : ps.length = 35
  case neg =>
    have e : verS si pi pc ps ss bs r = false := by unfold verS; rw [decide_eq_false (fun h => c1 h.1)]; rfl
    have hrr := r58a (.ro (bytes bs)) o3 o4 (fn r) bs.length si pi pc a4 n4 c4 (.slice a5 n5 c5)
    rw [hfr] at hrr
    rw [e]
    refine pieceF hm pCall_sound forceO_sound hrr ⟨by rw [show ((n4 : Int) != 35) = true by simp; omega], trivial⟩ ?_
    intro e T H he hr hn hg
    cases tag1 he
    exact ⟨.inr rfl, rfl, _, hr, rfl, keep3' (by rw [hn]; show 3 ≤ 5; omega) (hg (0, _) (.head _)) (hg (1, _) (.tail _ (.head _))) (hg (2, _) (.tail _ (.tail _ (.head _))))⟩
  have hn4 : ((n4 : Int) != 35) = false := by simp; omega
  by_cases c2 : pi = si
  case neg =>
    have e : verS si pi pc ps ss bs r = false := by unfold verS; rw [decide_eq_false (fun h => c2 h.2.1)]; rfl
    have hrr := r58b (.ro (bytes bs)) o3 o4 (fn r) bs.length si pi pc a4 n4 c4 (.slice a5 n5 c5)
    rw [hfr] at hrr
    rw [e]
    refine pieceF hm pCall_sound (orO_sound forceO_sound forceO_sound) hrr ⟨by rw [show (pi != si) = true by simpa using c2], by rw [hn4], trivial⟩ ?_
    intro e T H he hr hn hg
    cases tag1 he
    exact ⟨.inr rfl, rfl, _, hr, rfl, keep3' (by rw [hn]; show 3 ≤ 5; omega) (hg (0, _) (.head _)) (hg (1, _) (.tail _ (.head _))) (hg (2, _) (.tail _ (.tail _ (.head _))))⟩
  subst c2
  by_cases c3 : pc = 4
  case neg =>
    have e : verS pi pi pc ps ss bs r = false := by unfold verS; rw [decide_eq_false (fun h => c3 h.2.2)]; rfl
    have hrr := r58c (.ro (bytes bs)) o3 o4 (fn r) bs.length pi pi pc a4 n4 c4 (.slice a5 n5 c5)
    rw [hfr] at hrr
    rw [e]
    refine pieceF hm pCall_sound (orO_sound forceO_sound (orO_sound forceO_sound forceO_sound)) hrr ⟨by rw [show (pc != 4) = true by simpa using c3], by rw [show (pi != pi) = false by simp], by rw [hn4], trivial⟩ ?_
    intro e T H he hr hn hg
    cases tag1 he
    exact ⟨.inr rfl, rfl, _, hr, rfl, keep3' (by rw [hn]; show 3 ≤ 5; omega) (hg (0, _) (.head _)) (hg (1, _) (.tail _ (.head _))) (hg (2, _) (.tail _ (.tail _ (.head _))))⟩
  subst c3
  obtain ⟨rfl, rfl, rfl⟩ := h4.pos (by omega)
  have hn35 : n4 = 35 := by omega
  subst hn35
  have e : verS pi pi 4 ps ss bs r = vrS pi ss (sleafS (lastS ps bs)) r := by unfold verS; rw [decide_eq_true ⟨c1, rfl, rfl⟩]; rfl
  rw [e]
  have hrd := r58d (bytes bs) (flatD ps) o4 (fn r) bs.length pi a5 n5 c5 bs (digV bs)
  rw [hfr] at hrd
  have h6 : ∀ (σ : List (Nat × Nat)), sg 3 σ 3 = some 3 → sg 3 σ 4 = some 4 → sg 3 σ 5 = some 5 → ∀ j, j < 6 → sg 3 σ j = some j := fun σ h3 h4 h5 j hj => by
    have : j = 0 ∨ j = 1 ∨ j = 2 ∨ j = 3 ∨ j = 4 ∨ j = 5 := by omega
    rcases this with rfl | rfl | rfl | rfl | rfl | rfl
    · rfl
    · rfl
    · rfl
    · exact h3
    · exact h4
    · exact h5
  refine pieceSX pCall_sound (orO_sound forceO_sound (callO_sound (dg92_sound _ _))) 3 hrd rfl ⟨⟨hb, rfl, by rw [List.drop_zero, ← bytes_len bs, List.take_length], by rw [bytes_len]; omega, rfl⟩, by rw [show (pi != pi) = false by simp], trivial⟩ rfl 7 [(3, 3), (4, 4), (5, 5)] (k2 := k58 nilS) (os2 := l58 (bytes bs) (flatD ps) o4 (bytes r) pi (.slice a5 n5 c5) (digV bs)) (D2 := []) rfl
    (.cons ⟨rfl, .ptr rfl⟩ (.cons ⟨rfl, .ptr rfl⟩ (.cons ⟨rfl, .closed rfl⟩ (.cons ⟨rfl, .slice rfl⟩ (.cons ⟨rfl, .closed rfl⟩ .nil)))))
    (ob58 (is := []) (os := []) (l := []) h5 (h6 _ rfl rfl rfl) .nil) .nil ?_
  refine awn_seq (x := codeOf Tryz.f58 [1,1,1,1,0]) (y := codeOf Tryz.f58 [1,1,1,1,1]) ?_
  refine pieceT hm pCall_sound noOO_sound 0 (r58f _) rfl trivial rfl ?_
  have hN0 : Nrm Tryz.prog 3 (mkT 54 (k58 nilS ++ [(9, i64 ((0 : Nat) : Int))]) jX) (mkH 7 (l58 (bytes bs) (flatD ps) o4 (bytes r) pi (.slice a5 n5 c5) (digV bs)) []) [] (T58 nilS 0) (mkH 7 (l58 (bytes bs) (flatD ps) o4 (bytes r) pi (.slice a5 n5 c5) (digV bs) ++ [(6, .dead)]) []) [] :=
    Nrm.ext (Nat.le_refl _) fun x => by
      simp only [l58, mkH, Heap.get, List.append_nil, List.cons_append, List.nil_append, look_cons]
      repeat' split
      all_goals rfl
  have hL32 := lastS_32 (bs := bs) hp c1
  have hel := lastS_len ps bs
  refine awn_block (c := codeOf Tryz.f58 [1,1,1,1,0,1,0]) (awn_loop (c := codeOf Tryz.f58 [1,1,1,1,0,1,0,0])
    (fun q T H D => ∃ j, j + q = 35 ∧ T = T58 (rowV 6 ((lastS ps bs).take j)) j ∧ H = mkH 7 (l58 (bytes bs) (flatD ps) o4 (bytes r) pi (.slice a5 n5 c5) (digV bs) ++ [(6, rowO ((lastS ps bs).take j))]) [] ∧ D = [])
    35 ⟨_, _, _, hN0, 0, by omega, rfl, rfl, rfl⟩ ?_)
  rintro q T H D ⟨j, hq, rfl, rfl, rfl⟩
  refine awn_seq (x := codeOf Tryz.f58 [1,1,1,1,0,1,0,0,0]) (y := codeOf Tryz.f58 [1,1,1,1,0,1,0,0,1]) ?_
  refine pieceT hm pCall_sound noOO_sound 0 (r58h0 _ j _) rfl trivial rfl ?_
  refine awn_cond (c := .tmp 31) (b := decide ((j : Int) < 35)) rfl rfl ?_
  cases q with
  | zero =>
    rw [decide_eq_false (by omega)]
    refine awn_exit ?_
    have hj : j = 35 := by omega
    subst hj
    have e : (lastS ps bs).take 35 = lastS ps bs := List.take_of_length_le (by omega)
    have hne : lastS ps bs ≠ [] := fun h => by rw [h] at hel; cases hel
    rw [e, rowV_cons hne, rowO_cons hne, hel]
    have hfl : dgf (fn (sleafS (lastS ps bs))) = sleafS (lastS ps bs) := dgf_of (sleafS_len _)
    have hre := r58e (bytes bs) (flatD ps) o4 (fn r) (fn (sleafS (lastS ps bs))) pi a5 n5 c5 (digV bs) ss (lastS ps bs) (vrS pi ss (sleafS (lastS ps bs)) r) 35 (.bool false)
    have hse := sliC_self (ls := lastS ps bs) hL32
    rw [lastS_len] at hse
    rw [hfr, hfl] at hre
    refine pieceF hm pCall_sound (oo58e_sound (fn r) (fn (sleafS (lastS ps bs))) pi ss (lastS ps bs) (vrS pi ss (sleafS (lastS ps bs)) r)) hre ⟨⟨hr, rfl, sleafS_len _, rfl, rfl, rfl, h5.slh rfl, hs, hl, rfl⟩, ⟨hse, rfl, rfl⟩, trivial⟩ ?_
    intro e T H he hr hn hg
    cases tag1 he
    exact ⟨.inr rfl, rfl, _, hr, rfl, keep3' (by rw [hn]; show 3 ≤ 7; omega) (hg (0, _) (.head _)) (hg (1, _) (.tail _ (.head _))) (hg (2, _) (.tail _ (.tail _ (.head _))))⟩
  | succ q =>
    rw [decide_eq_true (by omega)]
    refine awn_skip ?_
    obtain ⟨hx, hx2⟩ := getD_32 hp (i := j) (by omega)
    obtain ⟨hd1, hd2⟩ := digS_at bs (c := j) (by omega)
    have hat := lastS_at (ps := ps) (bs := bs) (c := j) (by omega)
    generalize (digS bs).getD j 0 = d at *
    generalize ps.getD j [] = p at *
    have hy := lnkS_len (15 - d) hx
    have ht := take_snoc hat
    have ht32 := take_32 hL32 j
    have hw' := wrap_i1 (i := j) (by omega)
    have hC : C58 (fn p) (fn (lnkS (15 - d) p)) j d (15 - d) (flatD ps) (digV bs) := by
      rw [C58, show dgf (fn p) = p from dgf_of hx, show dgf (fn (lnkS (15 - d) p)) = lnkS (15 - d) p from dgf_of hy]
      exact ⟨⟨hx, rfl, wrap15 hd2, by omega, rfl⟩, ldC_one (by rw [Nat.mul_one, Nat.zero_add]; exact hd1), ⟨by omega, by omega⟩, flatD_at hp hx2, ⟨by omega, by omega⟩, trivial⟩
    have hfy : dgf (fn (lnkS (15 - d) p)) = lnkS (15 - d) p := dgf_of hy
    generalize hE : (lastS ps bs).take j = es at *
    have hdl : es.length = j := by rw [← hE, List.length_take]; omega
    have hk : ∀ u u2 : Value, RV (sg 3 [(3, 3), (4, 4), (5, 5), (6, 8)]) u u2 → F2 (fun (p q : Nat × Value) => p.1 = q.1 ∧ RV (sg 3 [(3, 3), (4, 4), (5, 5), (6, 8)]) p.2 q.2) (([3,5,6,7,8,9] : List Nat).zip [pt 3, pt 4, .bool false, sl 5 35, u, i64 ((j + 1 : Nat) : Int)]) (k58 u2 ++ [(9, i64 ((j + 1 : Nat) : Int))]) := fun u u2 hu =>
      .cons ⟨rfl, .ptr rfl⟩ (.cons ⟨rfl, .ptr rfl⟩ (.cons ⟨rfl, .closed rfl⟩ (.cons ⟨rfl, .slice rfl⟩ (.cons ⟨rfl, hu⟩ (.cons ⟨rfl, .closed rfl⟩ .nil)))))
    have fin : ∀ T H D, Nrm Tryz.prog 3 T H D (T58 (sl 6 (j + 1)) (j + 1)) (mkH 7 (l58 (bytes bs) (flatD ps) o4 (bytes r) pi (.slice a5 n5 c5) (digV bs) ++ [(6, grD (es ++ [lnkS (15 - d) p]))]) []) [] → ∃ m, m < q + 1 ∧ ∃ T2 H2 D2, Nrm Tryz.prog 3 T H D T2 H2 D2 ∧ ∃ j, j + m = 35 ∧ T2 = T58 (rowV 6 ((lastS ps bs).take j)) j ∧ H2 = mkH 7 (l58 (bytes bs) (flatD ps) o4 (bytes r) pi (.slice a5 n5 c5) (digV bs) ++ [(6, rowO ((lastS ps bs).take j))]) [] ∧ D2 = [] := by
      intro T H D hN
      refine ⟨q, by omega, _, _, _, hN, j + 1, by omega, ?_, ?_, rfl⟩
      · rw [ht, rowV_cons (b := 6) (ds := es ++ [lnkS (15 - d) p]) (by simp), List.length_append, hdl]; rfl
      · rw [ht, rowO_cons (ds := es ++ [lnkS (15 - d) p]) (by simp)]
    cases es with
    | nil =>
      have hj0 : j = 0 := by simpa using hdl.symm
      subst hj0
      have hr := r58g (bytes bs) (flatD ps) o4 .dead (bytes r) pi a5 n5 c5 (digV bs) (fn p) (fn (lnkS (15 - d) p)) 0 d (15 - d) (.bool true)
      rw [hfy, cw, hw', one_flat (lnkS (15 - d) p)] at hr
      refine pieceEX pCall_sound (oo58a_sound _ _ _ _) hr hC rfl 7 [(3, 3), (4, 4), (5, 5), (6, 8)] (k2 := k58 (sl 6 1) ++ [(9, i64 ((0 + 1 : Nat) : Int))]) (os2 := l58 (bytes bs) (flatD ps) o4 (bytes r) pi (.slice a5 n5 c5) (digV bs) ++ [(6, grD [lnkS (15 - d) p])]) (D2 := []) rfl (hk _ _ (.slice rfl))
        (ob58 (is := [8]) h5 (h6 _ rfl rfl rfl) (.cons ⟨rfl, RO.grD (ds := [lnkS (15 - d) p])⟩ .nil)) .nil ?_
      intro T H D hN
      exact fin T H D hN
    | cons e l =>
      have hr := r58h (bytes bs) (flatD ps) (flatD (e :: l)) o4 (bytes r) pi a5 n5 c5 (digV bs) (fn p) (fn (lnkS (15 - d) p)) j d (15 - d) (e :: l).length (.bool true)
      have hap := appD' hy ht32 (by omega)
      rw [hfy, cw, hw', take_flatD ht32] at hr
      refine pieceEX pCall_sound (oo58a_sound _ _ _ _) hr ⟨hap, hC⟩ rfl 7 [(3, 3), (4, 4), (5, 5), (6, 8)] (k2 := k58 (sl 6 ((e :: l).length + 1)) ++ [(9, i64 ((j + 1 : Nat) : Int))]) (os2 := l58 (bytes bs) (flatD ps) o4 (bytes r) pi (.slice a5 n5 c5) (digV bs) ++ [(6, grD (e :: l ++ [lnkS (15 - d) p]))]) (D2 := []) rfl (hk _ _ (.slice rfl))
        (ob58 (is := [8]) h5 (h6 _ rfl rfl rfl) (.cons ⟨rfl, RO.grD (ds := e :: l ++ [lnkS (15 - d) p])⟩ .nil)) .nil ?_
      intro T H D hN
      rw [hdl] at hN
      exact fin T H D hN
end Go.Abs

namespace Go.Abs
open Go.Proofs
set_option maxRecDepth 1000000

/-- Two digests that may differ: whether they do. -/
def neqdO (d : Nat) (b : Bool) : OpO := fun o ρ _ => match o.dst with
  | some d' => bif Nat.beq d' d then (match o.op with
    | .binOp .neq t x y _ => match ρ x, ρ y with
      | .agg vs, .agg ws => bif Nat.beq t 26 then some (.pure (.bool b) (EqdC vs ws (!b))) else none
      | _, _ => none
    | _ => none) else none
  | none => none
theorem neqdO_sound {d : Nat} {b : Bool} : SoundO Tryz.prog (neqdO d b) := by
  have key : ∀ o ρ H r, neqdO d b o ρ H = some r → ∃ v c, r = .pure v c ∧ (c → SPure Tryz.prog o ρ v) := by
    intro o ρ H r h
    unfold neqdO at h
    split at h
    case h_2 => cases h
    obtain ⟨_, h⟩ := cond_opt h
    split at h
    case h_2 => cases h
    rename_i t x y yt ho
    split at h
    case h_2 => cases h
    rename_i vs ws hvx hvy
    obtain ⟨ht, h⟩ := cond_opt h
    have ht := beqN ht
    subst ht
    cases h
    refine ⟨_, _, rfl, fun ⟨h1, h2, h3, h4, h5⟩ H2 => .of_Q fun B E a w hH hr => ?_⟩
    have ex := eq_of_c2 (hvx ▸ hr x (by simp [ho, Op.operands])) (u8s_c2 h3)
    have ey := eq_of_c2 (hvy ▸ hr y (by simp [ho, Op.operands])) (u8s_c2 h4)
    obtain ⟨dst, op, type, pos, after, guard⟩ := o
    simp only at ho
    subst ho
    refine ⟨.bool b, ?_, .bool b⟩
    have hg := run_eqGuard_agg (P := Tryz.prog) w .neq 26 x y vs ws guard26
    have hq := run_neq_struct (P := Tryz.prog) w 26 vs ws
    have he : (Op.equalIn 10000 26 (.agg vs) (.agg ws)).run Tryz.prog w = .ok (!b) w := by
      cases b with
      | false =>
        have := h5.1 rfl
        subst this
        exact equal_same w vs h1 h3
      | true => exact equal_ne w vs ws h1 h2 h3 h4 fun e => by have := h5.2 e; cases this
    rw [he] at hq
    simp only [execOp, ex, ey, Sem.run_bind, hg, Result.andThen_ok, hq]
    cases b <;> rfl
  refine ⟨fun o ρ H v ob c h => ?_, fun o ρ H v c h => ?_, fun o ρ H v c h => ?_, fun o ρ H v c h => ?_, fun o ρ H v H' c h => ?_⟩
  · obtain ⟨_, _, h, k⟩ := key _ _ _ _ h; cases h
  · obtain ⟨_, _, h, k⟩ := key _ _ _ _ h; cases h
  · obtain ⟨_, _, h, k⟩ := key _ _ _ _ h; cases h; exact k
  · obtain ⟨_, _, h, k⟩ := key _ _ _ _ h; cases h
  · obtain ⟨_, _, h, k⟩ := key _ _ _ _ h; cases h

/-- Signatures verified, by contract. -/
structure VsC (si pi pc : Int) (ps ss : List (List Int)) (bs r : List Int) (bb : Bool) (v : Value) (n off : Nat) (cs : List Value) (si' : Int) (a4 : Option Addr) (n4 c4 : Nat) (pi' pc' : Int) (a5 : Option Addr) (n5 c5 : Nat) (H : Heap) : Prop where
  hb : bs.length ≤ 1000000
  hr : r.length = 32
  hv : v = dig r
  hn : n = bs.length
  hc : (cs.drop off).take bs.length = bytes bs
  ho : off + bs.length ≤ cs.length
  e1 : si' = si
  e2 : pi' = pi
  e3 : pc' = pc
  h4 : SLH H a4 n4 c4 ps.length (flatD ps)
  h5 : SLH H a5 n5 c5 ss.length (flatD ss)
  hp : ∀ d ∈ ps, d.length = 32
  hs : ∀ d ∈ ss, d.length = 32
  hl : ss.length ≤ 100
  hbb : bb = verS si pi pc ps ss bs r
def vsG' (si pi pc : Int) (ps ss : List (List Int)) (bs r : List Int) (bb : Bool) : List Value → Heap → Option CallR := fun args H => match args with
  | [v, .slice (some ⟨id, off, none⟩) n _, .agg ⟨[.int .i64 si', .slice a4 n4 c4, .int .i64 pi', .int .i64 pc', .slice a5 n5 c5]⟩] => (match H.row id with
    | some cs => some (.same (.bool bb) (VsC si pi pc ps ss bs r bb v n off cs si' a4 n4 c4 pi' pc' a5 n5 c5 H))
    | none => none)
  | _ => none
theorem vs_key {k : FuncId} (hk : ∀ {bs r : List Int} {si pi pc : Int} {a4 a5 : Option Addr} {n4 c4 n5 c5 : Nat} {o3 o4 : AObj} {ps ss : List (List Int)}, bs.length ≤ 1000000 → r.length = 32 → SL 1 a4 n4 c4 o3 ps.length (flatD ps) → SL 2 a5 n5 c5 o4 ss.length (flatD ss) → (∀ d ∈ ps, d.length = 32) → (∀ d ∈ ss, d.length = 32) → ss.length ≤ 100 →
    Does Tryz.prog k [dig r, sl 0 bs.length, .agg (sgW si (.slice a4 n4 c4) pi pc (.slice a5 n5 c5)).toArray] (h57 (.ro (bytes bs)) o3 o4) (.bool (verS si pi pc ps ss bs r)) (h57 (.ro (bytes bs)) o3 o4))
    (si pi pc : Int) (ps ss : List (List Int)) (bs r : List Int) (bb : Bool) : SoundC Tryz.prog (oneC k (vsG' si pi pc ps ss bs r bb)) := oneC_sound fun args H q h => by
  unfold vsG' at h
  split at h
  case h_2 => cases h
  rename_i v id off n c si' a4 n4 c4 pi' pc' a5 n5 c5
  split at h
  case h_2 => cases h
  rename_i cs hrow
  cases h
  rintro ⟨hb, hr, rfl, rfl, hc, ho, rfl, rfl, rfl, h4, h5, hp, hs, hl, rfl⟩
  obtain ⟨a40, c40, o3, s1, g1, g2, g3⟩ := slh_sl h4 1
  obtain ⟨a50, c50, o4, s2, k1, k2, k3⟩ := slh_sl h5 2
  generalize hS : (fun j => if j = 0 then some (id, off, c) else if j = 1 then s1 else if j = 2 then s2 else none : Part) = S
  have e0 : S 0 = some (id, off, c) := by rw [← hS]; rfl
  have e1 : S 1 = s1 := by rw [← hS]; rfl
  have e2 : S 2 = s2 := by rw [← hS]; rfl
  refine frame_val (hk hb hr g1 k1 hp hs hl) rfl (imp_gen S ?_ (.cons (.closed (dig_c2 r)) (.cons (RI.slice e0) (.cons (RI.agg (l := [i64 si', .slice a4 n4 c4, i64 pi', i64 pc', .slice a5 n5 c5]) (m := [i64 si', .slice a40 n4 c40, i64 pi', i64 pc', .slice a50 n5 c50]) (.cons (.closed rfl) (.cons (g2 _ e1) (.cons (.closed rfl) (.cons (.closed rfl) (.cons (k2 _ e2) .nil)))))) .nil))) ?_)
  · intro j x hj
    rw [← hS] at hj
    by_cases h0 : j = 0
    · omega
    · by_cases h1 : j = 1
      · omega
      · by_cases h2 : j = 2
        · omega
        · simp [h0, h1, h2] at hj
  · intro p hp
    simp only [List.mem_cons, List.not_mem_nil, or_false] at hp
    rcases hp with rfl | rfl | rfl
    · exact .inr ⟨id, off, c, cs, bytes bs, bytes bs, e0, hrow, rfl, by rw [bytes_len]; exact hc, RI.all bytes_c2, by rw [bytes_len]; exact ho⟩
    · exact g3 _ e1
    · exact k3 _ e2
theorem vs57 (si pi pc : Int) (ps ss : List (List Int)) (bs r : List Int) (bb : Bool) : SoundC Tryz.prog (oneC 57 (vsG' si pi pc ps ss bs r bb)) := vs_key (fun a b c d e f g => does57 a b c d e f g) si pi pc ps ss bs r bb
theorem vs58 (si pi pc : Int) (ps ss : List (List Int)) (bs r : List Int) (bb : Bool) : SoundC Tryz.prog (oneC 58 (vsG' si pi pc ps ss bs r bb)) := vs_key (fun a b c d e f g => does58 a b c d e f g) si pi pc ps ss bs r bb
-- Check
abbrev h24 (o0 o1 o2 o3 o4 : AObj) : Heap := ⟨5, [(0, o0), (1, o1), (2, o2), (3, o3), (4, o4)]⟩
noncomputable def oo24 (k1 k2 : Nat) (m : Mg) (ls : List Ln) (ss : List Sr) (xs : List Ct) (x r : Nat → Int) (b1 : Bool) (ps ws : List (List Int)) (bb : Bool) : OpO := orO (callO Tryz.prog (oneC k1 (mrG m.toMf ls ss xs (dgf x)))) (orO (neqdO 18 b1) (orO (callO Tryz.prog (oneC 36 bytG)) (callO Tryz.prog (oneC k2 (vsG' m.si m.pi m.pc ps ws (dgf x) (dgf r) bb)))))
abbrev c24 (bb : Bool) : Value := i64 (bif bb then 0 else 101)
end Go.Abs

namespace Go.Abs
open Go.Proofs
set_option maxRecDepth 1000000

abbrev lw (o0 o1 o2 o3 o4 : AObj) : List (Nat × AObj) := [(0, o0), (1, o1), (2, o2), (3, o3), (4, o4)]
theorem r24a (o0 o1 o2 o3 o4 : AObj) (m : Mg) (ls : List Ln) (ss : List Sr) (xs : List Ct) (x r : Nat → Int) (ps ws : List (List Int)) (bb : Bool) : (ex3 Tryz.prog pCall (oo24 12 57 m ls ss xs x r true ps ws bb) 60 (codeOf Tryz.f24 []) ⟨⟨[.agg m.all.toArray, dig (dgf r)] ++ List.replicate 26 undef, h24 o0 o1 o2 o3 o4, []⟩, True⟩).map (fin3 Tryz.prog Tryz.f24 [0,1,2,3,4])
  = some (⟨1, some (i64 101), 9, [o0, o1, o2, o3, o4], [(56, [pt 7])]⟩, EqdC (dA x) (dA m.rt) false ∧ MrC m.toMf ls ss xs (dgf x) ⟨8, [(7, .cells [i64 0] 43), (6, .cells (bytes (dgf r)) 26), (5, .cells m.all 33)] ++ lw o0 o1 o2 o3 o4⟩ (.agg m.all.toArray) ∧ True) := by kernel_rfl
abbrev A24 (o0 o1 o2 o3 o4 : AObj) (m : Mg) (x r : List Value) : Heap := ⟨9, [(7, .cells [i64 0] 43), (8, .cells x 26), (8, .cells zD 26), (7, .cells [i64 0] 43), (6, .cells r 26), (5, .cells m.all 33)] ++ lw o0 o1 o2 o3 o4⟩
abbrev V24 (m : Mg) (ps ws : List (List Int)) (x r : List Int) (bb : Bool) (H : Heap) : Prop := VsC m.si m.pi m.pc ps ws x r bb (dig r) 32 0 (bytes x) m.si m.a4 m.n4 m.c4 m.pi m.pc m.a5 m.n5 m.c5 H
theorem r24b (o0 o1 o2 o3 o4 : AObj) (m : Mg) (ls : List Ln) (ss : List Sr) (xs : List Ct) (x r : Nat → Int) (ps ws : List (List Int)) : (ex3 Tryz.prog pCall (oo24 12 57 m ls ss xs x r false ps ws false) 60 (codeOf Tryz.f24 []) ⟨⟨[.agg m.all.toArray, dig (dgf r)] ++ List.replicate 26 undef, h24 o0 o1 o2 o3 o4, []⟩, True⟩).map (fin3 Tryz.prog Tryz.f24 [0,1,2,3,4])
  = some (⟨1, some (i64 101), 9, [o0, o1, o2, o3, o4], [(56, [pt 7])]⟩, V24 m ps ws (dgf x) (dgf r) false (A24 o0 o1 o2 o3 o4 m (bytes (dgf x)) (bytes (dgf r))) ∧ EqdC (dA x) (dA m.rt) true ∧ MrC m.toMf ls ss xs (dgf x) ⟨8, [(7, .cells [i64 0] 43), (6, .cells (bytes (dgf r)) 26), (5, .cells m.all 33)] ++ lw o0 o1 o2 o3 o4⟩ (.agg m.all.toArray) ∧ True) := by kernel_rfl
theorem r24c (o0 o1 o2 o3 o4 : AObj) (m : Mg) (ls : List Ln) (ss : List Sr) (xs : List Ct) (x r : Nat → Int) (ps ws : List (List Int)) : (ex3 Tryz.prog pCall (oo24 12 57 m ls ss xs x r false ps ws true) 60 (codeOf Tryz.f24 []) ⟨⟨[.agg m.all.toArray, dig (dgf r)] ++ List.replicate 26 undef, h24 o0 o1 o2 o3 o4, []⟩, True⟩).map (fin3 Tryz.prog Tryz.f24 [0,1,2,3,4])
  = some (⟨1, some (i64 0), 9, [o0, o1, o2, o3, o4], [(56, [pt 7])]⟩, V24 m ps ws (dgf x) (dgf r) true (A24 o0 o1 o2 o3 o4 m (bytes (dgf x)) (bytes (dgf r))) ∧ EqdC (dA x) (dA m.rt) true ∧ MrC m.toMf ls ss xs (dgf x) ⟨8, [(7, .cells [i64 0] 43), (6, .cells (bytes (dgf r)) 26), (5, .cells m.all 33)] ++ lw o0 o1 o2 o3 o4⟩ (.agg m.all.toArray) ∧ True) := by kernel_rfl
theorem r25a (o0 o1 o2 o3 o4 : AObj) (m : Mg) (ls : List Ln) (ss : List Sr) (xs : List Ct) (x r : Nat → Int) (ps ws : List (List Int)) (bb : Bool) : (ex3 Tryz.prog pCall (oo24 13 58 m ls ss xs x r true ps ws bb) 60 (codeOf Tryz.f25 []) ⟨⟨[.agg m.all.toArray, dig (dgf r)] ++ List.replicate 27 undef, h24 o0 o1 o2 o3 o4, []⟩, True⟩).map (fin3 Tryz.prog Tryz.f25 [0,1,2,3,4])
  = some (⟨1, some (i64 101), 8, [o0, o1, o2, o3, o4], []⟩, EqdC (dA x) (dA m.rt) false ∧ MrC m.toMf ls ss xs (dgf x) ⟨7, [(6, .cells (bytes (dgf r)) 26), (5, .cells m.all 33)] ++ lw o0 o1 o2 o3 o4⟩ (.agg m.all.toArray) ∧ True) := by kernel_rfl
abbrev A25 (o0 o1 o2 o3 o4 : AObj) (m : Mg) (x r : List Value) : Heap := ⟨9, [(8, gr x), (7, .cells x 26), (7, .cells zD 26), (6, .cells r 26), (5, .cells m.all 33)] ++ lw o0 o1 o2 o3 o4⟩
abbrev sgA2 (m : Mg) : Value := .agg #[i64 m.si, .slice m.a4 m.n4 m.c4, i64 m.pi, i64 m.pc, .slice m.a5 m.n5 m.c5]
theorem r25b (o0 o1 o2 o3 o4 : AObj) (m : Mg) (ls : List Ln) (ss : List Sr) (xs : List Ct) (x r : Nat → Int) (ps ws : List (List Int)) : (ex3 Tryz.prog pCall (oo24 13 58 m ls ss xs x r false ps ws false) 60 (codeOf Tryz.f25 []) ⟨⟨[.agg m.all.toArray, dig (dgf r)] ++ List.replicate 27 undef, h24 o0 o1 o2 o3 o4, []⟩, True⟩).map (fin3 Tryz.prog Tryz.f25 [0,1,2,3,4])
  = some (⟨1, some (i64 101), 9, [o0, o1, o2, o3, o4], []⟩, V24 m ps ws (dgf x) (dgf r) false (A25 o0 o1 o2 o3 o4 m (bytes (dgf x)) (bytes (dgf r))) ∧ EqN (sgA2 m) (BytC (bytes (dgf x)) ∧ EqN (dig (dgf r)) (EqdC (dA x) (dA m.rt) true ∧ MrC m.toMf ls ss xs (dgf x) ⟨7, [(6, .cells (bytes (dgf r)) 26), (5, .cells m.all 33)] ++ lw o0 o1 o2 o3 o4⟩ (.agg m.all.toArray) ∧ True))) := by kernel_rfl
theorem r25c (o0 o1 o2 o3 o4 : AObj) (m : Mg) (ls : List Ln) (ss : List Sr) (xs : List Ct) (x r : Nat → Int) (ps ws : List (List Int)) : (ex3 Tryz.prog pCall (oo24 13 58 m ls ss xs x r false ps ws true) 60 (codeOf Tryz.f25 []) ⟨⟨[.agg m.all.toArray, dig (dgf r)] ++ List.replicate 27 undef, h24 o0 o1 o2 o3 o4, []⟩, True⟩).map (fin3 Tryz.prog Tryz.f25 [0,1,2,3,4])
  = some (⟨1, some (i64 0), 9, [o0, o1, o2, o3, o4], []⟩, V24 m ps ws (dgf x) (dgf r) true (A25 o0 o1 o2 o3 o4 m (bytes (dgf x)) (bytes (dgf r))) ∧ EqN (sgA2 m) (BytC (bytes (dgf x)) ∧ EqN (dig (dgf r)) (EqdC (dA x) (dA m.rt) true ∧ MrC m.toMf ls ss xs (dgf x) ⟨7, [(6, .cells (bytes (dgf r)) 26), (5, .cells m.all 33)] ++ lw o0 o1 o2 o3 o4⟩ (.agg m.all.toArray) ∧ True))) := by kernel_rfl
/-- Whether a manifest is accepted. -/
def chkS (m : Mg) (ls : List Ln) (ss : List Sr) (xs : List Ct) (ps ws : List (List Int)) (r : List Int) : Bool := decide (rtM m.toMf ls ss xs = dgf m.rt) && verS m.si m.pi m.pc ps ws (rtM m.toMf ls ss xs) r
/-- A manifest with all its rows. -/
structure MgR (m : Mg) (o0 o1 o2 o3 o4 : AObj) (ls : List Ln) (ss : List Sr) (xs : List Ct) (ps ws : List (List Int)) : Prop where
  f : m.toMf.ok o0 o1 o2 ls ss xs
  p : SL 3 m.a4 m.n4 m.c4 o3 ps.length (flatD ps)
  q : SL 4 m.a5 m.n5 m.c5 o4 ws.length (flatD ws)
  hp : ∀ d ∈ ps, d.length = 32
  hw : ∀ d ∈ ws, d.length = 32
  hl : ws.length ≤ 100
  few : (leaves m.toMf ls ss xs).length ≤ 63
theorem MgR.i {m : Mg} {o0 o1 o2 o3 o4 : AObj} {ls : List Ln} {ss : List Sr} {xs : List Ct} {ps ws : List (List Int)} (h : MgR m o0 o1 o2 o3 o4 ls ss xs ps ws) : MgI m o0 o1 o2 o3 o4 ls ss xs := ⟨h.f, by
  rcases h.p with ⟨h1, h2, h3, _⟩ | ⟨h1, h2, _⟩
  · exact .inl ⟨h1, h2, h3⟩
  · exact .inr ⟨h1, h2⟩, by
  rcases h.q with ⟨h1, h2, h3, _⟩ | ⟨h1, h2, _⟩
  · exact .inl ⟨h1, h2, h3⟩
  · exact .inr ⟨h1, h2⟩, fun _ => h.p.ro, fun _ => h.q.ro, h.few⟩
theorem dA_inj {x y : Nat → Int} : dA x = dA y ↔ dgf x = dgf y := by
  constructor
  · intro h
    have h1 : bytes (dgf x) = bytes (dgf y) := by
      have := congrArg Array.toList h
      simpa using this
    have : ∀ l m : List Int, bytes l = bytes m → l = m := by
      intro l
      induction l with
      | nil => intro m hm; cases m with
        | nil => rfl
        | cons b m => simp [bytes] at hm
      | cons a l ih => intro m hm; cases m with
        | nil => simp [bytes] at hm
        | cons b m =>
          simp only [bytes, List.map_cons, List.cons.injEq, Value.int.injEq, true_and] at hm
          rw [hm.1, ih m hm.2]
    exact this _ _ h1
  · intro h; simp only [dA, h]
theorem eqd_of {x y : Nat → Int} {b : Bool} (h : b = true ↔ dgf x = dgf y) : EqdC (dA x) (dA y) b := ⟨by simp [dA, bytes_len, dgf_len], by simp [dA, bytes_len, dgf_len], by simpa using bytes_u8, by simpa using bytes_u8, h.trans dA_inj.symm⟩
theorem keepF {o0 o1 o2 o3 o4 : AObj} {H : Heap} (h1 : 5 ≤ H.next) (hg : ∀ p ∈ (([0,1,2,3,4] : List Nat).zip [o0, o1, o2, o3, o4]), H.get p.1 = p.2) : Keep (h24 o0 o1 o2 o3 o4) H := ⟨h1, fun id hid => by
  have : id = 0 ∨ id = 1 ∨ id = 2 ∨ id = 3 ∨ id = 4 := by have : id < 5 := hid; omega
  rcases this with rfl | rfl | rfl | rfl | rfl
  · exact hg (0, _) (.head _)
  · exact hg (1, _) (.tail _ (.head _))
  · exact hg (2, _) (.tail _ (.tail _ (.head _)))
  · exact hg (3, _) (.tail _ (.tail _ (.tail _ (.head _))))
  · exact hg (4, _) (.tail _ (.tail _ (.tail _ (.tail _ (.head _)))))⟩
theorem does24 {m : Mg} {o0 o1 o2 o3 o4 : AObj} {ls : List Ln} {ss : List Sr} {xs : List Ct} {ps ws : List (List Int)} (h : MgR m o0 o1 o2 o3 o4 ls ss xs ps ws) {r : List Int} (hr : r.length = 32) :
    Does Tryz.prog 24 [.agg m.all.toArray, dig r] (h24 o0 o1 o2 o3 o4) (c24 (chkS m ls ss xs ps ws r)) (h24 o0 o1 o2 o3 o4) := by
  refine val_of_awp Tryz.func24 (c := codeOf Tryz.f24 []) rfl rfl (awp_of_awn (n := 5) ?_ (Nat.le_refl _))
  have hfr : dgf (fn r) = r := dgf_of hr
  have hxl : (rtM m.toMf ls ss xs).length = 32 := rootS_len _
  have hfx : dgf (fn (rtM m.toMf ls ss xs)) = rtM m.toMf ls ss xs := dgf_of hxl
  unfold chkS
  generalize hx : rtM m.toMf ls ss xs = x at *
  have so : ∀ b1 bb, SoundO Tryz.prog (oo24 12 57 m ls ss xs (fn x) (fn r) b1 ps ws bb) := fun b1 bb => orO_sound (callO_sound (mr12 _ _ _ _ _)) (orO_sound neqdO_sound (orO_sound (callO_sound bytG_sound) (callO_sound (vs57 _ _ _ _ _ _ _ _))))
  by_cases hrt : x = dgf m.rt
  case neg =>
    rw [decide_eq_false hrt]
    have hrr := r24a o0 o1 o2 o3 o4 m ls ss xs (fn x) (fn r) ps ws true
    rw [hfx, hfr] at hrr
    refine pieceF hm pCall_sound (so _ _) hrr ⟨eqd_of ⟨fun h => (by cases h), fun h => absurd (hfx.symm.trans h) hrt⟩, ⟨Mf.lvc h.f rfl rfl rfl m.rest_len, h.few, hx.symm⟩, trivial⟩ ?_
    intro e T H he hr hn hg
    cases tag1 he
    exact ⟨.inr rfl, rfl, _, hr, rfl, keepF (by rw [hn]; show 5 ≤ 9; omega) hg⟩
  rw [decide_eq_true hrt, Bool.true_and]
  have hE : EqdC (dA (fn x)) (dA m.rt) true := eqd_of ⟨fun _ => hfx.trans hrt, fun _ => rfl⟩
  have hV : ∀ bb, bb = verS m.si m.pi m.pc ps ws x r → ∀ H : Heap, H.get 3 = o3 → H.get 4 = o4 → V24 m ps ws x r bb H := fun bb hbb H g3 g4 => ⟨by rw [hxl]; omega, hr, rfl, hxl.symm, by rw [hxl]; exact take32 hxl, by rw [bytes_len]; omega, rfl, rfl, rfl, h.p.slh g3, h.q.slh g4, h.hp, h.hw, h.hl, hbb⟩
  cases hv : verS m.si m.pi m.pc ps ws x r with
  | false =>
    have hrr := r24b o0 o1 o2 o3 o4 m ls ss xs (fn x) (fn r) ps ws
    rw [hfx, hfr] at hrr
    refine pieceF hm pCall_sound (so _ _) hrr ⟨hV _ hv.symm _ rfl rfl, hE, ⟨Mf.lvc h.f rfl rfl rfl m.rest_len, h.few, hx.symm⟩, trivial⟩ ?_
    intro e T H he hr hn hg
    cases tag1 he
    exact ⟨.inr rfl, rfl, _, hr, rfl, keepF (by rw [hn]; show 5 ≤ 9; omega) hg⟩
  | true =>
    have hrr := r24c o0 o1 o2 o3 o4 m ls ss xs (fn x) (fn r) ps ws
    rw [hfx, hfr] at hrr
    refine pieceF hm pCall_sound (so _ _) hrr ⟨hV _ hv.symm _ rfl rfl, hE, ⟨Mf.lvc h.f rfl rfl rfl m.rest_len, h.few, hx.symm⟩, trivial⟩ ?_
    intro e T H he hr hn hg
    cases tag1 he
    exact ⟨.inr rfl, rfl, _, hr, rfl, keepF (by rw [hn]; show 5 ≤ 9; omega) hg⟩
theorem does25 {m : Mg} {o0 o1 o2 o3 o4 : AObj} {ls : List Ln} {ss : List Sr} {xs : List Ct} {ps ws : List (List Int)} (h : MgR m o0 o1 o2 o3 o4 ls ss xs ps ws) {r : List Int} (hr : r.length = 32) :
    Does Tryz.prog 25 [.agg m.all.toArray, dig r] (h24 o0 o1 o2 o3 o4) (c24 (chkS m ls ss xs ps ws r)) (h24 o0 o1 o2 o3 o4) := by
  refine val_of_awp Tryz.func25 (c := codeOf Tryz.f25 []) rfl rfl (awp_of_awn (n := 5) ?_ (Nat.le_refl _))
  have hfr : dgf (fn r) = r := dgf_of hr
  have hxl : (rtM m.toMf ls ss xs).length = 32 := rootS_len _
  have hfx : dgf (fn (rtM m.toMf ls ss xs)) = rtM m.toMf ls ss xs := dgf_of hxl
  unfold chkS
  generalize hx : rtM m.toMf ls ss xs = x at *
  have so : ∀ b1 bb, SoundO Tryz.prog (oo24 13 58 m ls ss xs (fn x) (fn r) b1 ps ws bb) := fun b1 bb => orO_sound (callO_sound (mr13 _ _ _ _ _)) (orO_sound neqdO_sound (orO_sound (callO_sound bytG_sound) (callO_sound (vs58 _ _ _ _ _ _ _ _))))
  by_cases hrt : x = dgf m.rt
  case neg =>
    rw [decide_eq_false hrt]
    have hrr := r25a o0 o1 o2 o3 o4 m ls ss xs (fn x) (fn r) ps ws true
    rw [hfx, hfr] at hrr
    refine pieceF hm pCall_sound (so _ _) hrr ⟨eqd_of ⟨fun h => (by cases h), fun h => absurd (hfx.symm.trans h) hrt⟩, ⟨Mf.lvc h.f rfl rfl rfl m.rest_len, h.few, hx.symm⟩, trivial⟩ ?_
    intro e T H he hr hn hg
    cases tag1 he
    exact ⟨.inr rfl, rfl, _, hr, rfl, keepF (by rw [hn]; show 5 ≤ 8; omega) hg⟩
  rw [decide_eq_true hrt, Bool.true_and]
  have hE : EqdC (dA (fn x)) (dA m.rt) true := eqd_of ⟨fun _ => hfx.trans hrt, fun _ => rfl⟩
  have hV : ∀ bb, bb = verS m.si m.pi m.pc ps ws x r → ∀ H : Heap, H.get 3 = o3 → H.get 4 = o4 → V24 m ps ws x r bb H := fun bb hbb H g3 g4 => ⟨by rw [hxl]; omega, hr, rfl, hxl.symm, by rw [hxl]; exact take32 hxl, by rw [bytes_len]; omega, rfl, rfl, rfl, h.p.slh g3, h.q.slh g4, h.hp, h.hw, h.hl, hbb⟩
  cases hv : verS m.si m.pi m.pc ps ws x r with
  | false =>
    have hrr := r25b o0 o1 o2 o3 o4 m ls ss xs (fn x) (fn r) ps ws
    rw [hfx, hfr] at hrr
    refine pieceF hm pCall_sound (so _ _) hrr ⟨hV _ hv.symm _ rfl rfl, rfl, bytC_ok hxl, rfl, hE, ⟨Mf.lvc h.f rfl rfl rfl m.rest_len, h.few, hx.symm⟩, trivial⟩ ?_
    intro e T H he hr hn hg
    cases tag1 he
    exact ⟨.inr rfl, rfl, _, hr, rfl, keepF (by rw [hn]; show 5 ≤ 9; omega) hg⟩
  | true =>
    have hrr := r25c o0 o1 o2 o3 o4 m ls ss xs (fn x) (fn r) ps ws
    rw [hfx, hfr] at hrr
    refine pieceF hm pCall_sound (so _ _) hrr ⟨hV _ hv.symm _ rfl rfl, rfl, bytC_ok hxl, rfl, hE, ⟨Mf.lvc h.f rfl rfl rfl m.rest_len, h.few, hx.symm⟩, trivial⟩ ?_
    intro e T H he hr hn hg
    cases tag1 he
    exact ⟨.inr rfl, rfl, _, hr, rfl, keepF (by rw [hn]; show 5 ≤ 9; omega) hg⟩
end Go.Abs

