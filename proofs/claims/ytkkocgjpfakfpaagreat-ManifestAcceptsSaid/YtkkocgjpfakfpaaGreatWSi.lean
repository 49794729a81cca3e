/- For every manifest, seed and index the statements ManifestSigns and ManifestAccepts of law 40 hold, with no condition. -/
import Derived.Test.YtkkocgjpfakfpaaGreatWSh
set_option linter.unusedSimpArgs false
set_option linter.unusedVariables false
namespace Go.Abs
open Go.Proofs
set_option maxRecDepth 1000000

/-- Two manifests of the same contents: where their rows are. -/
structure M2 where
  a1 : Option Addr
  c1 : Nat
  a2 : Option Addr
  c2 : Nat
  a3 : Option Addr
  c3 : Nat
abbrev mM (m : Mf) (y : M2) (x : List Value) (i k p w : Nat) : List Value := mcs m.p m.d y.a1 m.n1 y.c1 y.a2 m.n2 y.c2 y.a3 m.n3 y.c3 (x ++ a53 i k p w)
abbrev l23 (o0 o1 o2 q0 q1 q2 : AObj) (ps ws : List Value) : List (Nat × AObj) := [(0, o0), (1, o1), (2, o2), (3, .ro ps), (4, .ro ws), (5, q0), (6, q1), (7, q2), (8, .ro ps), (9, .ro ws)]
abbrev v23 (o0 o1 o2 q0 q1 q2 : AObj) (ps ws : List Value) : List AObj := [o0, o1, o2, .ro ps, .ro ws, q0, q1, q2, .ro ps, .ro ws]
noncomputable def oo23 (i : Nat) (ps ws : List (List Int)) (ss : List Sr) : OpO := orO (forceO Tryz.prog 10 (.bool false)) (orO (forceO Tryz.prog 16 (.bool false)) (orO (neqO 23) (orO (callO Tryz.prog (oneC 53 (ssG i ps ws))) (orO (callO Tryz.prog (inC Tryz.prog pCall (callO Tryz.prog (oneC 96 (sm96 ss))) 60 [54])) (forceO Tryz.prog 48 (.bool false))))))
theorem oo23_sound (i : Nat) (ps ws : List (List Int)) (ss : List Sr) : SoundO Tryz.prog (oo23 i ps ws ss) := orO_sound forceO_sound (orO_sound forceO_sound (orO_sound neqO_sound (orO_sound (callO_sound (ss53 _ _ _)) (orO_sound (callO_sound (inC_sound hm pCall_sound (callO_sound (sm96_sound _)))) forceO_sound))))
theorem r23a (o0 o1 o2 q0 q1 q2 : AObj) (ps ws : List (List Int)) (m : Mf) (y z : M2) (x : Nat → Int) (i k : Nat) (ss : List Sr) : (ex3 Tryz.prog pCall (oo23 i ps ws ss) 60 (pre 1 (codeOf Tryz.f23 [])) ⟨⟨[.agg (mM m y (bytes (dgf x)) i k 3 4).toArray, .agg (mM m z (bytes (dgf x)) i k 8 9).toArray] ++ List.replicate 71 undef, ⟨10, l23 o0 o1 o2 q0 q1 q2 (flatD ps) (flatD ws)⟩, []⟩, True⟩).map (obs3 [2,3,4] [0,1,2,3,4,5,6,7,8,9,10,11])
  = some (⟨0, [pt 10, pt 11, .bool false], 73, 12, v23 o0 o1 o2 q0 q1 q2 (flatD ps) (flatD ws) ++ [.cells (mM m y (bytes (dgf x)) i k 3 4) 33, .cells (mM m z (bytes (dgf x)) i k 8 9) 33], []⟩,
    some (Value.bool ((m.n1 : Int) != (m.n1 : Int))) = some (Value.bool false) ∧ (SmC96 ss y.a2 m.n2 y.c2 z.a2 m.n2 z.c2 ⟨12, (11, .cells (mM m z (bytes (dgf x)) i k 8 9) 33) :: (10, .cells (mM m y (bytes (dgf x)) i k 3 4) 33) :: l23 o0 o1 o2 q0 q1 q2 (flatD ps) (flatD ws)⟩ ∧ True) ∧
    SsC i ps ws (i : Int) (i : Int) (i : Int) (i : Int) 4 4 35 35 k k 0 0 0 0 (flatD ps) (flatD ps) (flatD ws) (flatD ws) ∧ NeqC (dA x) (dA x) ∧ some (Value.bool (m.d != m.d)) = some (Value.bool false) ∧ some (Value.bool (m.p != m.p)) = some (Value.bool false) ∧ True) := by kernel_rfl
abbrev k23 : List (Nat × Value) := [(2, pt 10), (3, pt 11), (4, .bool false)]
abbrev T23 (j : Nat) : List Value := mkT 73 (k23 ++ [(5, i64 (j : Int))]) jX
abbrev T23b (j : Nat) (b : Value) : List Value := mkT 73 (k23 ++ [(5, i64 (j : Int)), (54, b)]) jX
abbrev H23 (o0 o1 o2 q0 q1 q2 : AObj) (ps ws MA MB : List Value) : Heap := mkH 12 (l23 o0 o1 o2 q0 q1 q2 ps ws ++ [(10, .cells MA 33), (11, .cells MB 33)]) []
theorem r23b (H : Heap) : (ex3 Tryz.prog pCall noOO 60 (pre 0 (codeOf Tryz.f23 [1,1,0])) ⟨⟨mkT 73 k23 jX, H, []⟩, True⟩).map (obsQ [2,3,4,5])
  = some (⟨0, [pt 10, pt 11, .bool false, i64 ((0 : Nat) : Int)], 73, H, []⟩, True) := by kernel_rfl
theorem r23c (o0 o1 o2 q0 q1 q2 : AObj) (ps ws : List Value) (m : Mf) (y : M2) (x MB : List Value) (i k j : Nat) : (ex3 Tryz.prog pCall noOO 60 (pre 0 (codeOf Tryz.f23 [1,1,0,1,0,0,0])) ⟨⟨T23 j, H23 o0 o1 o2 q0 q1 q2 ps ws (mM m y x i k 3 4) MB, []⟩, True⟩).map (obsQ [2,3,4,5,54])
  = some (⟨0, [pt 10, pt 11, .bool false, i64 (j : Int), .bool (decide ((j : Int) < (m.n1 : Int)))], 73, H23 o0 o1 o2 q0 q1 q2 ps ws (mM m y x i k 3 4) MB, []⟩, True) := by kernel_rfl
noncomputable def oo23d (l : Ln) : OpO := orO (idxO Tryz.prog 60) (orO (ldO Tryz.prog 61 (.agg l.cells.toArray)) (orO (idxO Tryz.prog 65) (orO (ldO Tryz.prog 66 (.agg l.cells.toArray)) (neqS 67))))
theorem oo23d_sound (l : Ln) : SoundO Tryz.prog (oo23d l) := orO_sound idxO_sound (orO_sound ldO_sound (orO_sound idxO_sound (orO_sound ldO_sound neqS_sound)))
theorem r23d (o1 o2 q1 q2 : AObj) (cs ds ps ws : List Value) (m : Mf) (a2 a3 b2 b3 : Option Addr) (c2 c3 e2 e3 : Nat) (x : List Value) (i k j : Nat) (l : Ln) (b : Value) : (ex3 Tryz.prog pCall (oo23d l) 60 (codeOf Tryz.f23 [1,1,0,1,0,0,1]) ⟨⟨T23b j b, H23 (.ro cs) o1 o2 (.ro ds) q1 q2 ps ws (mM m ⟨some ⟨0, 0, none⟩, capG, a2, c2, a3, c3⟩ x i k 3 4) (mM m ⟨some ⟨5, 0, none⟩, capG, b2, e2, b3, e3⟩ x i k 8 9), []⟩, True⟩).map (obs3 [2,3,4,5] [0,1,2,3,4,5,6,7,8,9,10,11])
  = some (⟨0, [pt 10, pt 11, .bool false, cw j], 73, 12, v23 (.ro cs) o1 o2 (.ro ds) q1 q2 ps ws ++ [.cells (mM m ⟨some ⟨0, 0, none⟩, capG, a2, c2, a3, c3⟩ x i k 3 4) 33, .cells (mM m ⟨some ⟨5, 0, none⟩, capG, b2, e2, b3, e3⟩ x i k 8 9) 33], []⟩,
    NqC 37 l.cells.toArray l.cells.toArray ∧ LdC Tryz.prog 37 (some ds) (0 + j * 38) (.agg l.cells.toArray) ∧ ((0 : Int) ≤ (j : Int) ∧ (j : Int) < (m.n1 : Int)) ∧ LdC Tryz.prog 37 (some cs) (0 + j * 38) (.agg l.cells.toArray) ∧ ((0 : Int) ≤ (j : Int) ∧ (j : Int) < (m.n1 : Int)) ∧ True) := by kernel_rfl
theorem r23e (o0 o1 o2 q0 q1 q2 : AObj) (ps ws : List Value) (m : Mf) (y z : M2) (x : List Value) (i k j : Nat) (b : Value) (xs : List Ct) : (ex3 Tryz.prog pCall (callO Tryz.prog (oneC 55 (sm55 xs))) 60 (codeOf Tryz.f23 [1,1,1]) ⟨⟨T23b j b, H23 o0 o1 o2 q0 q1 q2 ps ws (mM m y x i k 3 4) (mM m z x i k 8 9), []⟩, True⟩).map (fin3 Tryz.prog Tryz.f23 [0,1,2,3,4,5,6,7,8,9])
  = some (⟨1, some (.bool true), 12, v23 o0 o1 o2 q0 q1 q2 ps ws, []⟩, SmC55 xs y.a3 m.n3 y.c3 z.a3 m.n3 z.c3 (H23 o0 o1 o2 q0 q1 q2 ps ws (mM m y x i k 3 4) (mM m z x i k 8 9)) ∧ True) := by kernel_rfl
end Go.Abs

namespace Go.Abs
open Go.Proofs
set_option maxRecDepth 1000000

structure M2ok (m : Mf) (y : M2) (b : Nat) (o0 o1 o2 : AObj) (ls : List Ln) (ss : List Sr) (xs : List Ct) : Prop where
  l : SL b y.a1 m.n1 y.c1 o0 ls.length (ls.flatMap Ln.cells)
  s : SL (b + 1) y.a2 m.n2 y.c2 o1 ss.length (ss.flatMap Sr.cells)
  x : SL (b + 2) y.a3 m.n3 y.c3 o2 xs.length (xs.flatMap Ct.cells)
theorem M2ok.rv {m : Mf} {y : M2} {b : Nat} {o0 o1 o2 : AObj} {ls : List Ln} {ss : List Sr} {xs : List Ct} (h : M2ok m y b o0 o1 o2 ls ss xs) {σ : Nat → Option Nat} (h0 : σ b = some b) (h1 : σ (b + 1) = some (b + 1)) (h2 : σ (b + 2) = some (b + 2)) {x : List Int} {i k p w : Nat} (hp : σ p = some p) (hw : σ w = some w) : F2 (RV σ) (mM m y (bytes x) i k p w) (mM m y (bytes x) i k p w) :=
  .cons (.closed rfl) (.cons (.closed rfl) (.cons (h.l.rv h0) (.cons (h.s.rv h1) (.cons (h.x.rv h2) (F2.append2 (RV.all bytes_c2) (.cons (.closed rfl) (.cons (.slice hp) (.cons (.closed rfl) (.cons (.closed rfl) (.cons (.slice hw) .nil))))))))))
theorem Ln.k2 (x : Ln) : Abs.c2 (.agg x.cells.toArray) = true := x.c2
theorem does23 {m : Mf} {y z : M2} {o0 o1 o2 q0 q1 q2 : AObj} {ls : List Ln} {ss : List Sr} {xs : List Ct} {ps ws : List (List Int)} (hy : M2ok m y 0 o0 o1 o2 ls ss xs) (hz : M2ok m z 5 q0 q1 q2 ls ss xs) (hp : ∀ d ∈ ps, d.length = 32) (hw : ∀ d ∈ ws, d.length = 32) (hl : ps.length = 35) (hwl : ws.length ≤ 100) (b1 : ls.length ≤ 100000) (b2 : ss.length ≤ 100000) (b3 : xs.length ≤ 100000) {x : List Int} (hx : x.length = 32) (i : Nat) :
    Does Tryz.prog 23 [.agg (mM m y (bytes x) i ws.length 3 4).toArray, .agg (mM m z (bytes x) i ws.length 8 9).toArray] ⟨10, l23 o0 o1 o2 q0 q1 q2 (flatD ps) (flatD ws)⟩ (.bool true) ⟨10, l23 o0 o1 o2 q0 q1 q2 (flatD ps) (flatD ws)⟩ := by
  refine val_of_awp Tryz.func23 (c := codeOf Tryz.f23 []) rfl rfl (awp_of_awn (n := 10) ?_ (Nat.le_refl _))
  have hfx : dgf (fn x) = x := dgf_of hx
  have hn := hy.l.n
  have ob : ∀ σ : List (Nat × Nat), sg 10 σ 10 = some 10 → sg 10 σ 11 = some 11 → F2 (fun (p q : Nat × AObj) => sg 10 σ q.1 = some p.1 ∧ RO (sg 10 σ) p.2 q.2) (([0,1,2,3,4,5,6,7,8,9,10,11] : List Nat).zip (v23 o0 o1 o2 q0 q1 q2 (flatD ps) (flatD ws) ++ [.cells (mM m y (bytes x) i ws.length 3 4) 33, .cells (mM m z (bytes x) i ws.length 8 9) 33])) (l23 o0 o1 o2 q0 q1 q2 (flatD ps) (flatD ws) ++ [(10, .cells (mM m y (bytes x) i ws.length 3 4) 33), (11, .cells (mM m z (bytes x) i ws.length 8 9) 33)]) := fun σ h10 h11 =>
    .cons ⟨rfl, hy.l.ro⟩ (.cons ⟨rfl, hy.s.ro⟩ (.cons ⟨rfl, hy.x.ro⟩ (.cons ⟨rfl, .ro (RV.all flatD_c2)⟩ (.cons ⟨rfl, .ro (RV.all flatD_c2)⟩ (.cons ⟨rfl, hz.l.ro⟩ (.cons ⟨rfl, hz.s.ro⟩ (.cons ⟨rfl, hz.x.ro⟩ (.cons ⟨rfl, .ro (RV.all flatD_c2)⟩ (.cons ⟨rfl, .ro (RV.all flatD_c2)⟩ (.cons ⟨h10, .cells (hy.rv (σ := sg 10 σ) rfl rfl rfl rfl rfl)⟩ (.cons ⟨h11, .cells (hz.rv (σ := sg 10 σ) rfl rfl rfl rfl rfl)⟩ .nil)))))))))))
  have hra := r23a o0 o1 o2 q0 q1 q2 ps ws m y z (fn x) i ws.length ss
  rw [hfx] at hra
  refine pieceSX pCall_sound (oo23_sound _ _ _ _) 1 hra rfl ⟨by rw [show ((m.n1 : Int) != (m.n1 : Int)) = false by simp], ⟨⟨rfl, hy.s.slh rfl, hz.s.slh rfl, b2⟩, trivial⟩, ⟨rfl, rfl, rfl, rfl, rfl, rfl, by have := sliC_self hp; rwa [hl] at this, by have := sliC_self hp; rwa [hl] at this, sliC_self hw, sliC_self hw, hl, hwl⟩, neq_ok _, by rw [show (m.d != m.d) = false by simp], by rw [show (m.p != m.p) = false by simp], trivial⟩ rfl 12 [(10, 10), (11, 11)] (k2 := k23) (os2 := l23 o0 o1 o2 q0 q1 q2 (flatD ps) (flatD ws) ++ [(10, .cells (mM m y (bytes x) i ws.length 3 4) 33), (11, .cells (mM m z (bytes x) i ws.length 8 9) 33)]) (D2 := []) rfl
    (.cons ⟨rfl, .ptr rfl⟩ (.cons ⟨rfl, .ptr rfl⟩ (.cons ⟨rfl, .closed rfl⟩ .nil))) (ob _ rfl rfl) .nil ?_
  refine awn_seq (x := codeOf Tryz.f23 [1,1,0]) (y := codeOf Tryz.f23 [1,1,1]) ?_
  refine pieceT hm pCall_sound noOO_sound 0 (r23b _) rfl trivial rfl ?_
  refine awn_block (c := codeOf Tryz.f23 [1,1,0,1,0]) (awn_loop (c := codeOf Tryz.f23 [1,1,0,1,0,0])
    (fun q T H D => ∃ j, j + q = m.n1 ∧ T = T23 j ∧ H = H23 o0 o1 o2 q0 q1 q2 (flatD ps) (flatD ws) (mM m y (bytes x) i ws.length 3 4) (mM m z (bytes x) i ws.length 8 9) ∧ D = [])
    m.n1 ⟨_, _, _, .refl _ _ _ _ _, 0, by omega, rfl, rfl, rfl⟩ ?_)
  rintro q T H D ⟨j, hq, rfl, rfl, rfl⟩
  refine awn_seq (x := codeOf Tryz.f23 [1,1,0,1,0,0,0]) (y := codeOf Tryz.f23 [1,1,0,1,0,0,1]) ?_
  refine pieceT hm pCall_sound noOO_sound 0 (r23c _ _ _ _ _ _ _ _ m y _ _ i _ j) rfl trivial rfl ?_
  refine awn_cond (c := .tmp 54) (b := decide ((j : Int) < (m.n1 : Int))) rfl rfl ?_
  cases q with
  | zero =>
    rw [decide_eq_false (by omega)]
    refine awn_exit ?_
    refine pieceF hm pCall_sound (callO_sound (sm55_sound xs)) (r23e _ _ _ _ _ _ _ _ m y z _ i _ j _ xs) ⟨⟨rfl, hy.x.slh rfl, hz.x.slh rfl, b3⟩, trivial⟩ ?_
    intro e T H he hr hn hg
    cases tag1 he
    refine ⟨.inr rfl, rfl, _, hr, rfl, ⟨by rw [hn]; show 10 ≤ 12; omega, fun id hid => ?_⟩⟩
    have g : ∀ (j : Nat) (o : Nat × AObj), (([0,1,2,3,4,5,6,7,8,9] : List Nat).zip (v23 o0 o1 o2 q0 q1 q2 (flatD ps) (flatD ws)))[j]? = some o → H.get o.1 = o.2 := fun j o ho => hg o (List.mem_of_getElem? ho)
    have : id = 0 ∨ id = 1 ∨ id = 2 ∨ id = 3 ∨ id = 4 ∨ id = 5 ∨ id = 6 ∨ id = 7 ∨ id = 8 ∨ id = 9 := by have : id < 10 := hid; omega
    rcases this with rfl | rfl | rfl | rfl | rfl | rfl | rfl | rfl | rfl | rfl
    · exact g 0 _ rfl
    · exact g 1 _ rfl
    · exact g 2 _ rfl
    · exact g 3 _ rfl
    · exact g 4 _ rfl
    · exact g 5 _ rfl
    · exact g 6 _ rfl
    · exact g 7 _ rfl
    · exact g 8 _ rfl
    · exact g 9 _ rfl
  | succ q =>
    rw [decide_eq_true (by omega)]
    refine awn_skip ?_
    obtain ⟨ya1, yc1, ya2, yc2, ya3, yc3⟩ := y
    obtain ⟨za1, zc1, za2, zc2, za3, zc3⟩ := z
    obtain ⟨e1, e2, e3⟩ := hy.l.pos (by omega)
    obtain ⟨f1, f2, f3⟩ := hz.l.pos (by omega)
    simp only at e1 e2 f1 f2
    subst e1 e2 e3 f1 f2 f3
    have hi : ls[j]? = some ls[j] := List.getElem?_eq_getElem (by omega)
    obtain ⟨hp1, hp2⟩ := flat_part Ln.cells 38 ls (fun x _ => x.len) j _ hi
    generalize ls[j]'(by omega) = l at hp1 hp2
    have hr := r23d o1 o2 q1 q2 (ls.flatMap Ln.cells) (ls.flatMap Ln.cells) (flatD ps) (flatD ws) m ya2 ya3 za2 za3 yc2 yc3 zc2 zc3 (bytes x) i ws.length j l (.bool true)
    rw [cw, wrap_i1 (by omega), Nat.zero_add] at hr
    have hL := ldC_agg agg37 siz37 hp2 hp1
    refine pieceEX pCall_sound (oo23d_sound _) hr ⟨⟨rfl, l.k2, selfLn l, guard37⟩, hL, ⟨by omega, by omega⟩, hL, ⟨by omega, by omega⟩, trivial⟩ rfl 12 [(10, 10), (11, 11)] (k2 := k23 ++ [(5, i64 ((j + 1 : Nat) : Int))]) (D2 := []) rfl
      (.cons ⟨rfl, .ptr rfl⟩ (.cons ⟨rfl, .ptr rfl⟩ (.cons ⟨rfl, .closed rfl⟩ (.cons ⟨rfl, .closed rfl⟩ .nil)))) (ob _ rfl rfl) .nil ?_
    intro T H D hN
    exact ⟨q, by omega, _, _, _, hN, j + 1, by omega, rfl, rfl, rfl⟩
/-- Two manifests compared, by contract. -/
structure SaC (m : Mf) (y z : M2) (ls : List Ln) (ss : List Sr) (xs : List Ct) (ps ws : List (List Int)) (x : List Int) (i : Nat) (p w p2 w2 : Nat) (v v2 : Value) (H : Heap) : Prop where
  hv : v = .agg (mM m y (bytes x) i ws.length p w).toArray
  hv2 : v2 = .agg (mM m z (bytes x) i ws.length p2 w2).toArray
  hx : x.length = 32
  l : SLH H y.a1 m.n1 y.c1 ls.length (ls.flatMap Ln.cells)
  s : SLH H y.a2 m.n2 y.c2 ss.length (ss.flatMap Sr.cells)
  x : SLH H y.a3 m.n3 y.c3 xs.length (xs.flatMap Ct.cells)
  l2 : SLH H z.a1 m.n1 z.c1 ls.length (ls.flatMap Ln.cells)
  s2 : SLH H z.a2 m.n2 z.c2 ss.length (ss.flatMap Sr.cells)
  x2 : SLH H z.a3 m.n3 z.c3 xs.length (xs.flatMap Ct.cells)
  rp : H.row p = some (flatD ps)
  rw : H.row w = some (flatD ws)
  rp2 : H.row p2 = some (flatD ps)
  rw2 : H.row w2 = some (flatD ws)
  hp : ∀ d ∈ ps, d.length = 32
  hw : ∀ d ∈ ws, d.length = 32
  hl : ps.length = 35
  hwl : ws.length ≤ 100
  b1 : ls.length ≤ 100000
  b2 : ss.length ≤ 100000
  b3 : xs.length ≤ 100000
def saG (m : Mf) (y z : M2) (ls : List Ln) (ss : List Sr) (xs : List Ct) (ps ws : List (List Int)) (x : List Int) (i : Nat) (p w p2 w2 : Nat) : List Value → Heap → Option CallR := fun args H => match args with
  | [v, v2] => some (.same (.bool true) (SaC m y z ls ss xs ps ws x i p w p2 w2 v v2 H))
  | _ => none
theorem sa23 (m : Mf) (y z : M2) (ls : List Ln) (ss : List Sr) (xs : List Ct) (ps ws : List (List Int)) (x : List Int) (i : Nat) (p w p2 w2 : Nat) : SoundC Tryz.prog (oneC 23 (saG m y z ls ss xs ps ws x i p w p2 w2)) := oneC_sound fun args H q h => by
  unfold saG at h
  split at h
  case h_2 => cases h
  cases h
  rintro ⟨rfl, rfl, hx, hl1, hs1, hx1, hl2, hs2, hx2, rp, rw1, rp2, rw2, hp, hw, hl, hwl, b1, b2, b3⟩
  obtain ⟨a1, c1, o0, t0, g1, r1, q1⟩ := slh_sl hl1 0
  obtain ⟨a2, c2, o1, t1, g2, r2, q2⟩ := slh_sl hs1 1
  obtain ⟨a3, c3, o2, t2, g3, r3, q3⟩ := slh_sl hx1 2
  obtain ⟨d1, e1, u0, t5, g6, r6, q6⟩ := slh_sl hl2 5
  obtain ⟨d2, e2, u1, t6, g7, r7, q7⟩ := slh_sl hs2 6
  obtain ⟨d3, e3, u2, t7, g8, r8, q8⟩ := slh_sl hx2 7
  generalize hS : (fun j => if j = 0 then t0 else if j = 1 then t1 else if j = 2 then t2 else if j = 3 then some (p, 0, capG) else if j = 4 then some (w, 0, capG) else if j = 5 then t5 else if j = 6 then t6 else if j = 7 then t7 else if j = 8 then some (p2, 0, capG) else if j = 9 then some (w2, 0, capG) else none : Part) = S
  have s0 : S 0 = t0 := by rw [← hS]; rfl
  have s1 : S 1 = t1 := by rw [← hS]; rfl
  have s2 : S 2 = t2 := by rw [← hS]; rfl
  have s3 : S 3 = some (p, 0, capG) := by rw [← hS]; rfl
  have s4 : S 4 = some (w, 0, capG) := by rw [← hS]; rfl
  have s5 : S 5 = t5 := by rw [← hS]; rfl
  have s6 : S 6 = t6 := by rw [← hS]; rfl
  have s7 : S 7 = t7 := by rw [← hS]; rfl
  have s8 : S 8 = some (p2, 0, capG) := by rw [← hS]; rfl
  have s9 : S 9 = some (w2, 0, capG) := by rw [← hS]; rfl
  have hfp := flatD_len hp
  have hfw := flatD_len hw
  refine frame_val (does23 (y := ⟨a1, c1, a2, c2, a3, c3⟩) (z := ⟨d1, e1, d2, e2, d3, e3⟩) ⟨g1, g2, g3⟩ ⟨g6, g7, g8⟩ hp hw hl hwl b1 b2 b3 hx i) rfl (imp_gen S ?_
    (.cons (RI.agg (.cons (.closed rfl) (.cons (.closed rfl) (.cons (r1 _ s0) (.cons (r2 _ s1) (.cons (r3 _ s2) (F2.appR (RI.all bytes_c2) (.cons (.closed rfl) (.cons (RI.slice s3) (.cons (.closed rfl) (.cons (.closed rfl) (.cons (RI.slice s4) .nil))))))))))))
    (.cons (RI.agg (.cons (.closed rfl) (.cons (.closed rfl) (.cons (r6 _ s5) (.cons (r7 _ s6) (.cons (r8 _ s7) (F2.appR (RI.all bytes_c2) (.cons (.closed rfl) (.cons (RI.slice s8) (.cons (.closed rfl) (.cons (.closed rfl) (.cons (RI.slice s9) .nil)))))))))))) .nil)) ?_)
  · intro j x hj
    rw [← hS] at hj
    apply Classical.byContradiction
    intro hlt
    have : j ≠ 0 ∧ j ≠ 1 ∧ j ≠ 2 ∧ j ≠ 3 ∧ j ≠ 4 ∧ j ≠ 5 ∧ j ≠ 6 ∧ j ≠ 7 ∧ j ≠ 8 ∧ j ≠ 9 := by omega
    obtain ⟨n0, n1, n2, n3, n4, n5, n6, n7, n8, n9⟩ := this
    simp [n0, n1, n2, n3, n4, n5, n6, n7, n8, n9] at hj
  · have rr : ∀ (k id : Nat) (cs : List Value), S k = some (id, 0, capG) → H.row id = some cs → (∀ v ∈ cs, Abs.c2 v = true) → ((k, AObj.ro cs) : Nat × AObj).2 = .dead ∨ ∃ i o c row ws ws1, S (k, AObj.ro cs).1 = some (i, o, c) ∧ H.row i = some row ∧ ((k, AObj.ro cs) : Nat × AObj).2 = .ro ws ∧ (row.drop o).take ws.length = ws1 ∧ F2 (RI S) ws1 ws ∧ o + ws.length ≤ row.length := fun k id cs hk hrow hc =>
      .inr ⟨id, 0, capG, cs, cs, cs, hk, hrow, rfl, by rw [List.drop_zero, List.take_length], RI.all hc, by omega⟩
    intro pp hpp
    simp only [List.mem_cons, List.not_mem_nil, or_false] at hpp
    rcases hpp with rfl | rfl | rfl | rfl | rfl | rfl | rfl | rfl | rfl | rfl
    · exact q1 _ s0
    · exact q2 _ s1
    · exact q3 _ s2
    · exact rr 3 p _ s3 rp flatD_c2
    · exact rr 4 w _ s4 rw1 flatD_c2
    · exact q6 _ s5
    · exact q7 _ s6
    · exact q8 _ s7
    · exact rr 8 p2 _ s8 rp2 flatD_c2
    · exact rr 9 w2 _ s9 rw2 flatD_c2
end Go.Abs

namespace Go.Abs
open Go.Proofs
set_option maxRecDepth 1000000

abbrev z33v : Value := .agg (mcs 0 0 none 0 0 none 0 0 none 0 0 (zD ++ [i64 0, nilS, i64 0, i64 0, nilS])).toArray
theorem z33_c2 : c2 z33v = true := by kernel_rfl
noncomputable def oo23z : OpO := orO (neqO 23) (orO (callO Tryz.prog (inC Tryz.prog pCall (callO Tryz.prog (oneC 17 (spG [] 0 0))) 60 [53])) (orO (callO Tryz.prog (inC Tryz.prog pCall (callO Tryz.prog (inC Tryz.prog pCall noOO 60 [96])) 60 [54])) (callO Tryz.prog (inC Tryz.prog pCall noOO 60 [55]))))
theorem oo23z_sound : SoundO Tryz.prog oo23z := orO_sound neqO_sound (orO_sound (callO_sound (inC_sound hm pCall_sound (callO_sound (sp17 _ _ _)))) (orO_sound (callO_sound (inC_sound hm pCall_sound (callO_sound (inC_sound hm pCall_sound noOO_sound)))) (callO_sound (inC_sound hm pCall_sound noOO_sound))))
theorem r23z : (ex3 Tryz.prog pCall oo23z 60 (codeOf Tryz.f23 []) ⟨⟨[z33v, z33v] ++ List.replicate 71 undef, ⟨0, []⟩, []⟩, True⟩).map (fin3 Tryz.prog Tryz.f23 [])
  = some (⟨1, some (.bool true), 4, [], []⟩, True ∧ (True ∧ True) ∧ (True ∧ True) ∧ NeqC zD.toArray zD.toArray ∧ True) := by kernel_rfl
theorem does23z (H : Heap) : Does Tryz.prog 23 [z33v, z33v] H (.bool true) H := by
  refine Does.closed (H' := ⟨0, []⟩) (val_of_awp Tryz.func23 (c := codeOf Tryz.f23 []) rfl rfl (awp_of_awn (n := 0) ?_ (Nat.le_refl _))) (by simp only [List.all_cons, List.all_nil, z33_c2, Bool.and_self]) rfl H
  refine pieceF hm pCall_sound oo23z_sound r23z ⟨trivial, ⟨trivial, trivial⟩, ⟨trivial, trivial⟩, ⟨rfl, rfl, fun v hv => List.all_eq_true.1 (show zD.all isU8 = true from by kernel_rfl) v (by simpa using hv)⟩, trivial⟩ ?_
  intro e T H he hr hn hg
  cases tag1 he
  exact ⟨.inr rfl, rfl, _, hr, rfl, keep0 _⟩
def szG : List Value → Heap → Option CallR := fun args _ => match args with
  | [v, v2] => some (.same (.bool true) (v = z33v ∧ v2 = z33v))
  | _ => none
theorem sz23 : SoundC Tryz.prog (oneC 23 szG) := oneC_sound fun args H q h => by
  unfold szG at h
  split at h
  case h_2 => cases h
  cases h
  rintro ⟨rfl, rfl⟩
  exact does23z H

-- the law
abbrev H6 (o0 o1 o2 o3 o4 : AObj) (mc s : List Value) : Heap := mkH 7 (bL o0 o1 o2 o3 o4 mc s) []
abbrev T6 (z : Int) (l : List (Nat × Value)) : List Value := mkT 52 ([(2, i64 z), (3, pt 5), (4, pt 6), (6, .bool false)] ++ l) jX
theorem r6a (o0 o1 o2 o3 o4 : AObj) (m : Mg) (s : Nat → Int) (z : Int) : (ex3 Tryz.prog pCall noOO 60 (pre 0 (codeOf Tryz.f6 [])) ⟨⟨[.agg m.all.toArray, dig (dgf s), i64 z] ++ List.replicate 49 undef, h24 o0 o1 o2 o3 o4, []⟩, True⟩).map (obs3 [2,3,4,6] [0,1,2,3,4,5,6])
  = some (⟨0, [i64 z, pt 5, pt 6, .bool false], 52, 7, vL o0 o1 o2 o3 o4 m.all (bytes (dgf s)), []⟩, True) := by kernel_rfl
theorem r6b0 (o0 o1 o2 o3 o4 : AObj) (m : Mg) (s : List Value) (z : Int) : (ex3 Tryz.prog pCall (oo3a [false, true, true, true, true]) 60 (pre 0 (codeOf Tryz.f6 [1,0])) ⟨⟨T6 z [], H6 o0 o1 o2 o3 o4 m.all s, []⟩, True⟩).map (obs3 [2,3,4,6,14] [0,1,2,3,4,5,6])
  = some (⟨0, [i64 z, pt 5, pt 6, .bool false, .bool true], 52, 8, vL o0 o1 o2 o3 o4 m.all s, []⟩, (dcd m.n1 20 false ∧ True) ∧ True) := by kernel_rfl
theorem r6b1 (o0 o1 o2 o3 o4 : AObj) (m : Mg) (s : List Value) (z : Int) : (ex3 Tryz.prog pCall (oo3a [true, false, true, true, true]) 60 (pre 0 (codeOf Tryz.f6 [1,0])) ⟨⟨T6 z [], H6 o0 o1 o2 o3 o4 m.all s, []⟩, True⟩).map (obs3 [2,3,4,6,14] [0,1,2,3,4,5,6])
  = some (⟨0, [i64 z, pt 5, pt 6, .bool false, .bool true], 52, 8, vL o0 o1 o2 o3 o4 m.all s, []⟩, (dcd m.n2 20 false ∧ dcd m.n1 20 true ∧ True) ∧ True) := by kernel_rfl
theorem r6b2 (o0 o1 o2 o3 o4 : AObj) (m : Mg) (s : List Value) (z : Int) : (ex3 Tryz.prog pCall (oo3a [true, true, false, true, true]) 60 (pre 0 (codeOf Tryz.f6 [1,0])) ⟨⟨T6 z [], H6 o0 o1 o2 o3 o4 m.all s, []⟩, True⟩).map (obs3 [2,3,4,6,14] [0,1,2,3,4,5,6])
  = some (⟨0, [i64 z, pt 5, pt 6, .bool false, .bool true], 52, 8, vL o0 o1 o2 o3 o4 m.all s, []⟩, (dcd m.n3 20 false ∧ dcd m.n2 20 true ∧ dcd m.n1 20 true ∧ True) ∧ True) := by kernel_rfl
theorem r6b3 (o0 o1 o2 o3 o4 : AObj) (m : Mg) (s : List Value) (z : Int) : (ex3 Tryz.prog pCall (oo3a [true, true, true, false, true]) 60 (pre 0 (codeOf Tryz.f6 [1,0])) ⟨⟨T6 z [], H6 o0 o1 o2 o3 o4 m.all s, []⟩, True⟩).map (obs3 [2,3,4,6,14] [0,1,2,3,4,5,6])
  = some (⟨0, [i64 z, pt 5, pt 6, .bool false, .bool true], 52, 8, vL o0 o1 o2 o3 o4 m.all s, []⟩, (dcd m.n4 40 false ∧ dcd m.n3 20 true ∧ dcd m.n2 20 true ∧ dcd m.n1 20 true ∧ True) ∧ True) := by kernel_rfl
theorem r6b4 (o0 o1 o2 o3 o4 : AObj) (m : Mg) (s : List Value) (z : Int) : (ex3 Tryz.prog pCall (oo3a [true, true, true, true, false]) 60 (pre 0 (codeOf Tryz.f6 [1,0])) ⟨⟨T6 z [], H6 o0 o1 o2 o3 o4 m.all s, []⟩, True⟩).map (obs3 [2,3,4,6,14] [0,1,2,3,4,5,6])
  = some (⟨0, [i64 z, pt 5, pt 6, .bool false, .bool true], 52, 8, vL o0 o1 o2 o3 o4 m.all s, []⟩, (dcd m.n5 20 false ∧ dcd m.n4 40 true ∧ dcd m.n3 20 true ∧ dcd m.n2 20 true ∧ dcd m.n1 20 true ∧ True) ∧ True) := by kernel_rfl
theorem r6b5 (o0 o1 o2 o3 o4 : AObj) (m : Mg) (s : List Value) (z : Int) : (ex3 Tryz.prog pCall (oo3a [true, true, true, true, true]) 60 (pre 0 (codeOf Tryz.f6 [1,0])) ⟨⟨T6 z [], H6 o0 o1 o2 o3 o4 m.all s, []⟩, True⟩).map (obs3 [2,3,4,6,14] [0,1,2,3,4,5,6])
  = some (⟨0, [i64 z, pt 5, pt 6, .bool false, .bool false], 52, 8, vL o0 o1 o2 o3 o4 m.all s, []⟩, (dcd m.n5 20 true ∧ dcd m.n4 40 true ∧ dcd m.n3 20 true ∧ dcd m.n2 20 true ∧ dcd m.n1 20 true ∧ True) ∧ True) := by kernel_rfl
theorem r6c (z : Int) (b : Value) (H : Heap) : (ex3 Tryz.prog pCall (callO Tryz.prog (oneC 9 awG)) 60 (codeOf Tryz.f6 [1,0,1,0]) ⟨⟨T6 z [(14, b)], H, []⟩, True⟩).map (fun r => (r.1.tag, resA Tryz.prog Tryz.f6 r.2.T r.2.H, r.2.H, r.2.D, r.2.L))
  = some (1, some (.bool true), H, [], True ∧ True) := by kernel_rfl
/-- Sign of the program at the law's heap. -/
structure S20C (m : Mg) (o0 o1 o2 o3 o4 : AObj) (ls : List Ln) (ss : List Sr) (xs : List Ct) (s : List Int) (i : Nat) (ps way : List (List Int)) (x : List Int) (args : List Value) (H : Heap) : Prop where
  ha : args = [.agg m.all.toArray, dig s, i64 (i : Int)]
  hH : H = H6 o0 o1 o2 o3 o4 m.all (bytes s)
  hm : MgI m o0 o1 o2 o3 o4 ls ss xs
  hs : s.length = 32
  hi : i < 4
  hx : x = rtM m.toMf ls ss xs
  hp : ps = partS s i (rtM m.toMf ls ss xs)
  hw : way = wayS i (leavesS s)
def s20 (m : Mg) (o0 o1 o2 o3 o4 : AObj) (ls : List Ln) (ss : List Sr) (xs : List Ct) (s : List Int) (i : Nat) (ps way : List (List Int)) (x : List Int) : List Value → Heap → Option CallR := fun args H => match args with
  | [_, _, _] => some (.eff (.tuple #[.agg (mR m.toMf 7 (bytes x) (i : Int) 10 way.length).toArray, i64 0]) (pushAll H (obS m.toMf ls ss xs ps way)) (S20C m o0 o1 o2 o3 o4 ls ss xs s i ps way x args H))
  | _ => none
theorem s20_sound (m : Mg) (o0 o1 o2 o3 o4 : AObj) (ls : List Ln) (ss : List Sr) (xs : List Ct) (s : List Int) (i : Nat) (ps way : List (List Int)) (x : List Int) : SoundC Tryz.prog (oneC 20 (s20 m o0 o1 o2 o3 o4 ls ss xs s i ps way x)) := oneC_sound fun args H q h => by
  unfold s20 at h
  split at h
  case h_2 => cases h
  cases h
  rintro ⟨h1, rfl, h3, h4, h5, rfl, rfl, rfl⟩
  rw [h1]
  exact does20 h3 h4 h5
theorem r6d (o0 o1 o2 o3 o4 : AObj) (m : Mg) (ls : List Ln) (ss : List Sr) (xs : List Ct) (s x : Nat → Int) (i : Nat) (ps way : List (List Int)) (b : Value) : (ex3 Tryz.prog pCall (callO Tryz.prog (oneC 20 (s20 m o0 o1 o2 o3 o4 ls ss xs (dgf s) i ps way (dgf x)))) 60 (pre 0 (codeOf Tryz.f6 [1,1])) ⟨⟨T6 (i : Int) [(14, b)], H6 o0 o1 o2 o3 o4 m.all (bytes (dgf s)), []⟩, True⟩).map (obs3 [2,3,4,6,7,8] [0,1,2,3,4,5,6,7,8,9,10,11,12])
  = some (⟨0, [i64 (i : Int), pt 5, pt 6, .bool false, pt 12, i64 0], 52, 13, xA o0 o1 o2 o3 o4 m.all (bytes (dgf s)) (clO m.n1 (ls.flatMap Ln.cells) 37) (clO m.n2 (ss.flatMap Sr.cells) 104) (clO m.n3 (xs.flatMap Ct.cells) 106) ps way (mR m.toMf 7 (bytes (dgf x)) (i : Int) 10 way.length), []⟩,
    S20C m o0 o1 o2 o3 o4 ls ss xs (dgf s) i ps way (dgf x) [.agg m.all.toArray, dig (dgf s), i64 (i : Int)] (H6 o0 o1 o2 o3 o4 m.all (bytes (dgf s))) ∧ True) := by kernel_rfl
/-- Sign of the reference at the law's heap. -/
structure S21C (m : Mg) (o0 o1 o2 o3 o4 c1 c2 c3 : AObj) (ls : List Ln) (ss : List Sr) (xs : List Ct) (s : List Int) (i : Nat) (ps way : List (List Int)) (x : List Int) (mA : List Value) (args : List Value) (H : Heap) : Prop where
  ha : args = [.agg m.all.toArray, dig s, i64 (i : Int)]
  hH : H = mkH 13 (lA o0 o1 o2 o3 o4 m.all (bytes s) c1 c2 c3 ps way mA) []
  hm : MgI m o0 o1 o2 o3 o4 ls ss xs
  hs : s.length = 32
  hi : i < 4
  r1 : ∀ σ : Nat → Option Nat, RO σ c1 c1
  r2 : ∀ σ : Nat → Option Nat, RO σ c2 c2
  r3 : ∀ σ : Nat → Option Nat, RO σ c3 c3
  rA : ∀ σ : List (Nat × Nat), F2 (RV (sg 13 σ)) mA mA
  hx : x = rtM m.toMf ls ss xs
  hp : ps = partS s i (rtM m.toMf ls ss xs)
  hw : way = wayS i (leavesS s)
def s21 (m : Mg) (o0 o1 o2 o3 o4 c1 c2 c3 : AObj) (ls : List Ln) (ss : List Sr) (xs : List Ct) (s : List Int) (i : Nat) (ps way : List (List Int)) (x : List Int) (mA : List Value) : List Value → Heap → Option CallR := fun args H => match args with
  | [_, _, _] => some (.eff (.tuple #[.agg (mB m.toMf x (i : Int) 13 way.length).toArray, i64 0]) (pushAll H [grD ps, grD way]) (S21C m o0 o1 o2 o3 o4 c1 c2 c3 ls ss xs s i ps way x mA args H))
  | _ => none
theorem s21_sound (m : Mg) (o0 o1 o2 o3 o4 c1 c2 c3 : AObj) (ls : List Ln) (ss : List Sr) (xs : List Ct) (s : List Int) (i : Nat) (ps way : List (List Int)) (x : List Int) (mA : List Value) : SoundC Tryz.prog (oneC 21 (s21 m o0 o1 o2 o3 o4 c1 c2 c3 ls ss xs s i ps way x mA)) := oneC_sound fun args H q h => by
  unfold s21 at h
  split at h
  case h_2 => cases h
  cases h
  rintro ⟨h1, rfl, h3, h4, h5, r1, r2, r3, rA, rfl, hp, hw⟩
  rw [h1]
  exact does21 h3 h4 h5 r1 r2 r3 rA hp hw
noncomputable def oo6e (m : Mg) (o0 o1 o2 o3 o4 c1 c2 c3 : AObj) (ls : List Ln) (ss : List Sr) (xs : List Ct) (s p : List Int) (i : Nat) (ps way : List (List Int)) (x : List Int) (mA : List Value) : OpO := orO (callO Tryz.prog (oneC 21 (s21 m o0 o1 o2 o3 o4 c1 c2 c3 ls ss xs s i ps way x mA))) (callO Tryz.prog (oneC 22 (pbG s p)))
theorem r6e (o0 o1 o2 o3 o4 c1 c2 c3 : AObj) (m : Mg) (ls : List Ln) (ss : List Sr) (xs : List Ct) (s x p : Nat → Int) (i : Nat) (ps way : List (List Int)) (mA : List Value) : (ex3 Tryz.prog pCall (oo6e m o0 o1 o2 o3 o4 c1 c2 c3 ls ss xs (dgf s) (dgf p) i ps way (dgf x) mA) 60 (pre 1 (codeOf Tryz.f6 [1,1,1])) ⟨⟨T6 (i : Int) [(7, pt 12), (8, i64 0)], mkH 13 (lA o0 o1 o2 o3 o4 m.all (bytes (dgf s)) c1 c2 c3 ps way mA) [], []⟩, True⟩).map (obs3 [3,4,6,7,8,9,10,11] [0,1,2,3,4,5,6,7,8,9,10,11,12,13,14,15,16])
  = some (⟨0, [pt 5, pt 6, .bool false, pt 12, i64 0, pt 15, i64 0, pt 16], 52, 17, xA o0 o1 o2 o3 o4 m.all (bytes (dgf s)) c1 c2 c3 ps way mA ++ [grD ps, grD way, .cells (mB m.toMf (dgf x) (i : Int) 13 way.length) 33, .cells (bytes (dgf p)) 26], []⟩,
    ((dgf s).length = 32 ∧ dig (dgf s) = dig (dgf s) ∧ dgf p = pubS (dgf s)) ∧ S21C m o0 o1 o2 o3 o4 c1 c2 c3 ls ss xs (dgf s) i ps way (dgf x) mA [.agg m.all.toArray, dig (dgf s), i64 (i : Int)] (mkH 13 (lA o0 o1 o2 o3 o4 m.all (bytes (dgf s)) c1 c2 c3 ps way mA) []) ∧ True) := by kernel_rfl
abbrev yA (m : Mf) : M2 := ⟨clA m.a1 m.n1 7, clC m.n1, clA m.a2 m.n2 8, clC m.n2, clA m.a3 m.n3 9, clC m.n3⟩
abbrev yB (m : Mf) : M2 := ⟨m.a1, m.c1, m.a2, m.c2, m.a3, m.c3⟩
noncomputable def oo6g (m : Mg) (ls : List Ln) (ss : List Sr) (xs : List Ct) (ps way qs ws : List (List Int)) (x p : List Int) (i : Nat) (bb : Bool) : OpO := orO (callO Tryz.prog (oneC 23 (saG m.toMf (yA m.toMf) (yB m.toMf) ls ss xs ps way x i 10 11 13 14))) (orO (callO Tryz.prog (oneC 24 (chG m ls ss xs qs ws p bb))) (orO (callO Tryz.prog (oneC 25 (chG m ls ss xs qs ws p bb))) (callO Tryz.prog (oneC 9 awG))))
theorem oo6g_sound (h9 : ∀ H, Does Tryz.prog 9 [] H (.bool true) H) (m : Mg) (ls : List Ln) (ss : List Sr) (xs : List Ct) (ps way qs ws : List (List Int)) (x p : List Int) (i : Nat) (bb : Bool) : SoundO Tryz.prog (oo6g m ls ss xs ps way qs ws x p i bb) := orO_sound (callO_sound (sa23 _ _ _ _ _ _ _ _ _ _ _ _ _ _)) (orO_sound (callO_sound (ch24 _ _ _ _ _ _ _ _)) (orO_sound (callO_sound (ch25 _ _ _ _ _ _ _ _)) (callO_sound (awG_sound h9))))
abbrev HG (o0 o1 o2 o3 o4 c1 c2 c3 : AObj) (m : Mg) (s x p : List Value) (i : Nat) (ps way : List (List Int)) (mA mBB : List Value) : Heap := mkH 17 (lA o0 o1 o2 o3 o4 m.all s c1 c2 c3 ps way mA ++ [(13, grD ps), (14, grD way), (15, .cells mBB 33), (16, .cells p 26)]) []
theorem r6gt (o0 o1 o2 o3 o4 c1 c2 c3 : AObj) (m : Mg) (ls : List Ln) (ss : List Sr) (xs : List Ct) (s : List Value) (x p : Nat → Int) (i : Nat) (ps way qs ws : List (List Int)) : (ex3 Tryz.prog pCall (oo6g m ls ss xs ps way qs ws (dgf x) (dgf p) i true) 60 (codeOf Tryz.f6 [1,1,1,1,1]) ⟨⟨mkT 52 [(3, pt 5), (4, pt 6), (6, .bool false), (7, pt 12), (8, i64 0), (9, pt 15), (10, i64 0), (11, pt 16)] jX, HG o0 o1 o2 o3 o4 c1 c2 c3 m s (bytes (dgf x)) (bytes (dgf p)) i ps way (mR m.toMf 7 (bytes (dgf x)) (i : Int) 10 way.length) (mB m.toMf (dgf x) (i : Int) 13 way.length), []⟩, True⟩).map (fin3 Tryz.prog Tryz.f6 [0,1,2,3,4])
  = some (⟨1, some (.bool true), 17, [o0, o1, o2, o3, o4], []⟩,
    True ∧ ChC m ls ss xs qs ws (dgf p) true (.agg m.all.toArray) (dig (dgf p)) (HG o0 o1 o2 o3 o4 c1 c2 c3 m s (bytes (dgf x)) (bytes (dgf p)) i ps way (mR m.toMf 7 (bytes (dgf x)) (i : Int) 10 way.length) (mB m.toMf (dgf x) (i : Int) 13 way.length)) ∧ ChC m ls ss xs qs ws (dgf p) true (.agg m.all.toArray) (dig (dgf p)) (HG o0 o1 o2 o3 o4 c1 c2 c3 m s (bytes (dgf x)) (bytes (dgf p)) i ps way (mR m.toMf 7 (bytes (dgf x)) (i : Int) 10 way.length) (mB m.toMf (dgf x) (i : Int) 13 way.length)) ∧
    SaC m.toMf (yA m.toMf) (yB m.toMf) ls ss xs ps way (dgf x) i 10 11 13 14 (.agg (mR m.toMf 7 (bytes (dgf x)) (i : Int) 10 way.length).toArray) (.agg (mB m.toMf (dgf x) (i : Int) 13 way.length).toArray) (HG o0 o1 o2 o3 o4 c1 c2 c3 m s (bytes (dgf x)) (bytes (dgf p)) i ps way (mR m.toMf 7 (bytes (dgf x)) (i : Int) 10 way.length) (mB m.toMf (dgf x) (i : Int) 13 way.length)) ∧ True) := by kernel_rfl
theorem r6gf (o0 o1 o2 o3 o4 c1 c2 c3 : AObj) (m : Mg) (ls : List Ln) (ss : List Sr) (xs : List Ct) (s : List Value) (x p : Nat → Int) (i : Nat) (ps way qs ws : List (List Int)) : (ex3 Tryz.prog pCall (oo6g m ls ss xs ps way qs ws (dgf x) (dgf p) i false) 60 (codeOf Tryz.f6 [1,1,1,1,1]) ⟨⟨mkT 52 [(3, pt 5), (4, pt 6), (6, .bool false), (7, pt 12), (8, i64 0), (9, pt 15), (10, i64 0), (11, pt 16)] jX, HG o0 o1 o2 o3 o4 c1 c2 c3 m s (bytes (dgf x)) (bytes (dgf p)) i ps way (mR m.toMf 7 (bytes (dgf x)) (i : Int) 10 way.length) (mB m.toMf (dgf x) (i : Int) 13 way.length), []⟩, True⟩).map (fin3 Tryz.prog Tryz.f6 [0,1,2,3,4])
  = some (⟨1, some (.bool true), 17, [o0, o1, o2, o3, o4], []⟩,
    True ∧ ChC m ls ss xs qs ws (dgf p) false (.agg m.all.toArray) (dig (dgf p)) (HG o0 o1 o2 o3 o4 c1 c2 c3 m s (bytes (dgf x)) (bytes (dgf p)) i ps way (mR m.toMf 7 (bytes (dgf x)) (i : Int) 10 way.length) (mB m.toMf (dgf x) (i : Int) 13 way.length)) ∧ ChC m ls ss xs qs ws (dgf p) false (.agg m.all.toArray) (dig (dgf p)) (HG o0 o1 o2 o3 o4 c1 c2 c3 m s (bytes (dgf x)) (bytes (dgf p)) i ps way (mR m.toMf 7 (bytes (dgf x)) (i : Int) 10 way.length) (mB m.toMf (dgf x) (i : Int) 13 way.length)) ∧
    SaC m.toMf (yA m.toMf) (yB m.toMf) ls ss xs ps way (dgf x) i 10 11 13 14 (.agg (mR m.toMf 7 (bytes (dgf x)) (i : Int) 10 way.length).toArray) (.agg (mB m.toMf (dgf x) (i : Int) 13 way.length).toArray) (HG o0 o1 o2 o3 o4 c1 c2 c3 m s (bytes (dgf x)) (bytes (dgf p)) i ps way (mR m.toMf 7 (bytes (dgf x)) (i : Int) 10 way.length) (mB m.toMf (dgf x) (i : Int) 13 way.length)) ∧ True) := by kernel_rfl
end Go.Abs

namespace Go.Abs
open Go.Proofs
set_option maxRecDepth 1000000

structure SzI (m : Mg) (o0 o1 o2 o3 o4 : AObj) (ls : List Ln) (ss : List Sr) (xs : List Ct) (s : List Int) (z : Int) (H0 : Heap) (args : List Value) (H : Heap) : Prop where
  ha : args = [.agg m.all.toArray, dig s, i64 z]
  hH : H = H0
  hm : MgI m o0 o1 o2 o3 o4 ls ss xs
  hs : s.length = 32
  hz : z < 0 ∨ 4 ≤ z
def szz (m : Mg) (o0 o1 o2 o3 o4 : AObj) (ls : List Ln) (ss : List Sr) (xs : List Ct) (s : List Int) (z : Int) (H0 : Heap) : List Value → Heap → Option CallR := fun args H => match args with
  | [_, _, _] => some (.same zMan (SzI m o0 o1 o2 o3 o4 ls ss xs s z H0 args H))
  | _ => none
theorem s20z (m : Mg) (o0 o1 o2 o3 o4 : AObj) (ls : List Ln) (ss : List Sr) (xs : List Ct) (s : List Int) (z : Int) : SoundC Tryz.prog (oneC 20 (szz m o0 o1 o2 o3 o4 ls ss xs s z (H6 o0 o1 o2 o3 o4 m.all (bytes s)))) := oneC_sound fun args H q h => by
  unfold szz at h
  split at h
  case h_2 => cases h
  cases h
  rintro ⟨h1, rfl, h3, h4, h5⟩
  rw [h1]
  exact does20z h3 h4 h5
theorem s21z (m : Mg) (o0 o1 o2 o3 o4 : AObj) (ls : List Ln) (ss : List Sr) (xs : List Ct) (s : List Int) (z : Int) : SoundC Tryz.prog (oneC 21 (szz m o0 o1 o2 o3 o4 ls ss xs s z (mkH 8 (lZ o0 o1 o2 o3 o4 m.all (bytes s)) []))) := oneC_sound fun args H q h => by
  unfold szz at h
  split at h
  case h_2 => cases h
  cases h
  rintro ⟨h1, rfl, h3, h4, h5⟩
  rw [h1]
  exact does21z h3 h4 h5
theorem r6dz (o0 o1 o2 o3 o4 : AObj) (m : Mg) (ls : List Ln) (ss : List Sr) (xs : List Ct) (s : Nat → Int) (z : Int) (b : Value) : (ex3 Tryz.prog pCall (callO Tryz.prog (oneC 20 (szz m o0 o1 o2 o3 o4 ls ss xs (dgf s) z (H6 o0 o1 o2 o3 o4 m.all (bytes (dgf s)))))) 60 (pre 0 (codeOf Tryz.f6 [1,1])) ⟨⟨T6 z [(14, b)], H6 o0 o1 o2 o3 o4 m.all (bytes (dgf s)), []⟩, True⟩).map (obs3 [2,3,4,6,7,8] [0,1,2,3,4,5,6,7])
  = some (⟨0, [i64 z, pt 5, pt 6, .bool false, pt 7, i64 1], 52, 8, vL o0 o1 o2 o3 o4 m.all (bytes (dgf s)) ++ [z33o], []⟩,
    SzI m o0 o1 o2 o3 o4 ls ss xs (dgf s) z (H6 o0 o1 o2 o3 o4 m.all (bytes (dgf s))) [.agg m.all.toArray, dig (dgf s), i64 z] (H6 o0 o1 o2 o3 o4 m.all (bytes (dgf s))) ∧ True) := by kernel_rfl
noncomputable def oo6ez (m : Mg) (o0 o1 o2 o3 o4 : AObj) (ls : List Ln) (ss : List Sr) (xs : List Ct) (s p : List Int) (z : Int) : OpO := orO (callO Tryz.prog (oneC 21 (szz m o0 o1 o2 o3 o4 ls ss xs s z (mkH 8 (lZ o0 o1 o2 o3 o4 m.all (bytes s)) [])))) (callO Tryz.prog (oneC 22 (pbG s p)))
theorem r6ez (o0 o1 o2 o3 o4 : AObj) (m : Mg) (ls : List Ln) (ss : List Sr) (xs : List Ct) (s p : Nat → Int) (z : Int) : (ex3 Tryz.prog pCall (oo6ez m o0 o1 o2 o3 o4 ls ss xs (dgf s) (dgf p) z) 60 (pre 1 (codeOf Tryz.f6 [1,1,1])) ⟨⟨T6 z [(7, pt 7), (8, i64 1)], mkH 8 (lZ o0 o1 o2 o3 o4 m.all (bytes (dgf s))) [], []⟩, True⟩).map (obs3 [3,4,6,7,8,9,10,11] [0,1,2,3,4,5,6,7,8,9])
  = some (⟨0, [pt 5, pt 6, .bool false, pt 7, i64 1, pt 8, i64 1, pt 9], 52, 10, vL o0 o1 o2 o3 o4 m.all (bytes (dgf s)) ++ [z33o, z33o, .cells (bytes (dgf p)) 26], []⟩,
    ((dgf s).length = 32 ∧ dig (dgf s) = dig (dgf s) ∧ dgf p = pubS (dgf s)) ∧ SzI m o0 o1 o2 o3 o4 ls ss xs (dgf s) z (mkH 8 (lZ o0 o1 o2 o3 o4 m.all (bytes (dgf s))) []) [.agg m.all.toArray, dig (dgf s), i64 z] (mkH 8 (lZ o0 o1 o2 o3 o4 m.all (bytes (dgf s))) []) ∧ True) := by kernel_rfl
noncomputable def oo6gz (m : Mg) (ls : List Ln) (ss : List Sr) (xs : List Ct) (qs ws : List (List Int)) (p : List Int) (bb : Bool) : OpO := orO (callO Tryz.prog (oneC 23 szG)) (orO (callO Tryz.prog (oneC 24 (chG m ls ss xs qs ws p bb))) (orO (callO Tryz.prog (oneC 25 (chG m ls ss xs qs ws p bb))) (callO Tryz.prog (oneC 9 awG))))
theorem oo6gz_sound (h9 : ∀ H, Does Tryz.prog 9 [] H (.bool true) H) (m : Mg) (ls : List Ln) (ss : List Sr) (xs : List Ct) (qs ws : List (List Int)) (p : List Int) (bb : Bool) : SoundO Tryz.prog (oo6gz m ls ss xs qs ws p bb) := orO_sound (callO_sound sz23) (orO_sound (callO_sound (ch24 _ _ _ _ _ _ _ _)) (orO_sound (callO_sound (ch25 _ _ _ _ _ _ _ _)) (callO_sound (awG_sound h9))))
abbrev HZ (o0 o1 o2 o3 o4 : AObj) (m : Mg) (s p : List Value) : Heap := mkH 10 (lZ o0 o1 o2 o3 o4 m.all s ++ [(8, z33o), (9, .cells p 26)]) []
theorem r6gzt (o0 o1 o2 o3 o4 : AObj) (m : Mg) (ls : List Ln) (ss : List Sr) (xs : List Ct) (s : List Value) (p : Nat → Int) (qs ws : List (List Int)) : (ex3 Tryz.prog pCall (oo6gz m ls ss xs qs ws (dgf p) true) 60 (codeOf Tryz.f6 [1,1,1,1,1]) ⟨⟨mkT 52 [(3, pt 5), (4, pt 6), (6, .bool false), (7, pt 7), (8, i64 1), (9, pt 8), (10, i64 1), (11, pt 9)] jX, HZ o0 o1 o2 o3 o4 m s (bytes (dgf p)), []⟩, True⟩).map (fin3 Tryz.prog Tryz.f6 [0,1,2,3,4])
  = some (⟨1, some (.bool true), 10, [o0, o1, o2, o3, o4], []⟩,
    True ∧ ChC m ls ss xs qs ws (dgf p) true (.agg m.all.toArray) (dig (dgf p)) (HZ o0 o1 o2 o3 o4 m s (bytes (dgf p))) ∧ ChC m ls ss xs qs ws (dgf p) true (.agg m.all.toArray) (dig (dgf p)) (HZ o0 o1 o2 o3 o4 m s (bytes (dgf p))) ∧ (z33v = z33v ∧ z33v = z33v) ∧ True) := by kernel_rfl
theorem r6gzf (o0 o1 o2 o3 o4 : AObj) (m : Mg) (ls : List Ln) (ss : List Sr) (xs : List Ct) (s : List Value) (p : Nat → Int) (qs ws : List (List Int)) : (ex3 Tryz.prog pCall (oo6gz m ls ss xs qs ws (dgf p) false) 60 (codeOf Tryz.f6 [1,1,1,1,1]) ⟨⟨mkT 52 [(3, pt 5), (4, pt 6), (6, .bool false), (7, pt 7), (8, i64 1), (9, pt 8), (10, i64 1), (11, pt 9)] jX, HZ o0 o1 o2 o3 o4 m s (bytes (dgf p)), []⟩, True⟩).map (fin3 Tryz.prog Tryz.f6 [0,1,2,3,4])
  = some (⟨1, some (.bool true), 10, [o0, o1, o2, o3, o4], []⟩,
    True ∧ ChC m ls ss xs qs ws (dgf p) false (.agg m.all.toArray) (dig (dgf p)) (HZ o0 o1 o2 o3 o4 m s (bytes (dgf p))) ∧ ChC m ls ss xs qs ws (dgf p) false (.agg m.all.toArray) (dig (dgf p)) (HZ o0 o1 o2 o3 o4 m s (bytes (dgf p))) ∧ (z33v = z33v ∧ z33v = z33v) ∧ True) := by kernel_rfl
theorem cl_slh {j n c k : Nat} {a : Option Addr} {o : AObj} {cs : List Value} (h : SL j a n c o k cs) {H : Heap} {b : Nat} {e : TypeId} (hg : H.get b = clO n cs e) : SLH H (clA a n b) n (clC n) k cs := by
  have hn := h.n
  cases n with
  | zero => cases a with
    | none => exact .inl ⟨.inl rfl, rfl, rfl, hn.symm⟩
    | some a => exact .inl ⟨.inr rfl, rfl, rfl, hn.symm⟩
  | succ n =>
    rcases h with ⟨_, h0, _⟩ | ⟨_, _, _, _, h5⟩
    · cases h0
    · refine .inr ⟨b, 0, cs, rfl, hn, ?_, by rw [List.drop_zero, List.take_length], by omega, h5⟩
      unfold Heap.row
      rw [hg]
      rfl
theorem wayS4 {s : List Int} {i : Nat} (hi : i < 4) : (wayS i (leavesS s)).length = 2 := by
  have := way_nd (i := i) (ls := leavesS s) (by rw [leavesS_len]; exact hi)
  rw [this, leavesS_len, nd4 hi]
theorem obU {σ : Nat → Option Nat} {c1 c2 c3 : AObj} {ps way : List (List Int)} {mA : List Value} (g7 : σ 7 = some 7) (g8 : σ 8 = some 8) (g9 : σ 9 = some 9) (g10 : σ 10 = some 10) (g11 : σ 11 = some 11) (g12 : σ 12 = some 12) (r1 : RO σ c1 c1) (r2 : RO σ c2 c2) (r3 : RO σ c3 c3) (rA : F2 (RV σ) mA mA) {is : List Nat} {os : List AObj} {l : List (Nat × AObj)} (ho : F2 (fun (p q : Nat × AObj) => σ q.1 = some p.1 ∧ RO σ p.2 q.2) (is.zip os) l) :
    F2 (fun (p q : Nat × AObj) => σ q.1 = some p.1 ∧ RO σ p.2 q.2) (([7,8,9,10,11,12] ++ is : List Nat).zip (uA c1 c2 c3 ps way mA ++ os)) (wA c1 c2 c3 ps way mA ++ l) :=
  .cons ⟨g7, r1⟩ (.cons ⟨g8, r2⟩ (.cons ⟨g9, r3⟩ (.cons ⟨g10, RO.grD⟩ (.cons ⟨g11, RO.grD⟩ (.cons ⟨g12, .cells rA⟩ ho)))))
theorem does6 (h9 : ∀ H, Does Tryz.prog 9 [] H (.bool true) H) {o0 o1 o2 o3 o4 : AObj} {m : Mg} {ls : List Ln} {ss : List Sr} {xs : List Ct} {qs ws : List (List Int)} (hl : SL 0 m.a1 m.n1 m.c1 o0 ls.length (ls.flatMap Ln.cells)) (hs : SL 1 m.a2 m.n2 m.c2 o1 ss.length (ss.flatMap Sr.cells)) (hx : SL 2 m.a3 m.n3 m.c3 o2 xs.length (xs.flatMap Ct.cells)) (hp : SL 3 m.a4 m.n4 m.c4 o3 qs.length (flatD qs)) (hq : SL 4 m.a5 m.n5 m.c5 o4 ws.length (flatD ws))
    (hq32 : ∀ d ∈ qs, d.length = 32) (hw32 : ∀ d ∈ ws, d.length = 32) {s : List Int} (hsl : s.length = 32) (z : Int) :
    Does Tryz.prog 6 [.agg m.all.toArray, dig s, i64 z] (h24 o0 o1 o2 o3 o4) (.bool true) (h24 o0 o1 o2 o3 o4) := by
  refine val_of_awp Tryz.func6 (c := codeOf Tryz.f6 []) rfl rfl (awp_of_awn (n := 5) ?_ (Nat.le_refl _))
  have hfs : dgf (fn s) = s := dgf_of hsl
  have hn1 := hl.n
  have hn2 := hs.n
  have hn3 := hx.n
  have hn5 := hq.n
  have hrv : ∀ (σ : Nat → Option Nat), σ 0 = some 0 → σ 1 = some 1 → σ 2 = some 2 → σ 3 = some 3 → σ 4 = some 4 → F2 (RV σ) m.all m.all := fun σ h0 h1 h2 h3 h4 =>
    .cons (.closed rfl) (.cons (.closed rfl) (.cons (hl.rv h0) (.cons (hs.rv h1) (.cons (hx.rv h2) (F2.append2 (RV.all bytes_c2) (.cons (.closed rfl) (.cons (hp.rv h3) (.cons (.closed rfl) (.cons (.closed rfl) (.cons (hq.rv h4) .nil))))))))))
  have hob : ∀ s', sg 5 s' 5 = some 5 → sg 5 s' 6 = some 6 → ∀ (is : List Nat) (os : List AObj) (l : List (Nat × AObj)), F2 (fun (p q : Nat × AObj) => sg 5 s' q.1 = some p.1 ∧ RO (sg 5 s') p.2 q.2) (is.zip os) l → F2 (fun (p q : Nat × AObj) => sg 5 s' q.1 = some p.1 ∧ RO (sg 5 s') p.2 q.2) (([0,1,2,3,4,5,6] ++ is : List Nat).zip (vL o0 o1 o2 o3 o4 m.all (bytes s) ++ os)) (bL o0 o1 o2 o3 o4 m.all (bytes s) ++ l) := fun s' e5 e6 is os l ho =>
    .cons ⟨rfl, hl.ro⟩ (.cons ⟨rfl, hs.ro⟩ (.cons ⟨rfl, hx.ro⟩ (.cons ⟨rfl, hp.ro⟩ (.cons ⟨rfl, hq.ro⟩ (.cons ⟨e5, .cells (hrv _ rfl rfl rfl rfl rfl)⟩ (.cons ⟨e6, .cells (RV.all bytes_c2)⟩ ho))))))
  have hT : ∀ s' z' b, sg 5 s' 5 = some 5 → sg 5 s' 6 = some 6 → F2 (fun (p q : Nat × Value) => p.1 = q.1 ∧ RV (sg 5 s') p.2 q.2) (([2,3,4,6,14] : List Nat).zip [i64 z', pt 5, pt 6, .bool false, .bool b]) [(2, i64 z'), (3, pt 5), (4, pt 6), (6, .bool false), (14, .bool b)] := fun s' z' b e5 e6 =>
    .cons ⟨rfl, .closed rfl⟩ (.cons ⟨rfl, .ptr e5⟩ (.cons ⟨rfl, .ptr e6⟩ (.cons ⟨rfl, .closed rfl⟩ (.cons ⟨rfl, .closed rfl⟩ .nil))))
  have hra := r6a o0 o1 o2 o3 o4 m (fn s) z
  rw [hfs] at hra
  refine pieceSX pCall_sound noOO_sound 0 hra rfl trivial rfl 7 [(5, 5), (6, 6)] (k2 := [(2, i64 z), (3, pt 5), (4, pt 6), (6, .bool false)]) (D2 := []) rfl (.cons ⟨rfl, .closed rfl⟩ (.cons ⟨rfl, .ptr rfl⟩ (.cons ⟨rfl, .ptr rfl⟩ (.cons ⟨rfl, .closed rfl⟩ .nil)))) (hob _ rfl rfl [] [] [] .nil) .nil ?_
  refine awn_seq (x := codeOf Tryz.f6 [1,0]) (y := codeOf Tryz.f6 [1,1]) ?_
  have kp : Keep (h24 o0 o1 o2 o3 o4) (H6 o0 o1 o2 o3 o4 m.all (bytes s)) := ⟨by show 5 ≤ 7; omega, fun id hid => by
    have : id = 0 ∨ id = 1 ∨ id = 2 ∨ id = 3 ∨ id = 4 := by have : id < 5 := hid; omega
    rcases this with rfl | rfl | rfl | rfl | rfl <;> rfl⟩
  have awk : ∀ (bv : Value), Awn Tryz.prog 5 (codeOf Tryz.f6 [1,0,1,0]) (thenA (Awn Tryz.prog 5 (codeOf Tryz.f6 [1,1]) (EndF Tryz.f6 (h24 o0 o1 o2 o3 o4))) (EndF Tryz.f6 (h24 o0 o1 o2 o3 o4))) (T6 z [(14, bv)]) (H6 o0 o1 o2 o3 o4 m.all (bytes s)) [] := fun bv =>
    awn_mono (Q := fun e T H D => e = .ret ∧ EndF Tryz.f6 (h24 o0 o1 o2 o3 o4) e T H D) (pieceY pCall_sound (callO_sound (awG_sound h9)) (r6c z bv _) ⟨trivial, trivial⟩ kp) (by rintro e T H D ⟨rfl, h⟩; exact h)
  by_cases h1 : m.n1 ≤ 20
  case neg =>
    refine pieceSX pCall_sound (oo3a_sound false true true true true) 0 (r6b0 o0 o1 o2 o3 o4 m (bytes s) z) rfl ⟨⟨dcd_of (decide_eq_false h1), trivial⟩, trivial⟩ rfl 7 [(5, 5), (6, 6)] (D2 := []) rfl (hT _ _ _ rfl rfl) (hob _ rfl rfl [] [] [] .nil) .nil ?_
    exact awn_cond (c := .tmp 14) (b := true) rfl rfl (awk _)
  by_cases h2 : m.n2 ≤ 20
  case neg =>
    refine pieceSX pCall_sound (oo3a_sound true false true true true) 0 (r6b1 o0 o1 o2 o3 o4 m (bytes s) z) rfl ⟨⟨dcd_of (decide_eq_false h2), dcd_of (decide_eq_true h1), trivial⟩, trivial⟩ rfl 7 [(5, 5), (6, 6)] (D2 := []) rfl (hT _ _ _ rfl rfl) (hob _ rfl rfl [] [] [] .nil) .nil ?_
    exact awn_cond (c := .tmp 14) (b := true) rfl rfl (awk _)
  by_cases h3 : m.n3 ≤ 20
  case neg =>
    refine pieceSX pCall_sound (oo3a_sound true true false true true) 0 (r6b2 o0 o1 o2 o3 o4 m (bytes s) z) rfl ⟨⟨dcd_of (decide_eq_false h3), dcd_of (decide_eq_true h2), dcd_of (decide_eq_true h1), trivial⟩, trivial⟩ rfl 7 [(5, 5), (6, 6)] (D2 := []) rfl (hT _ _ _ rfl rfl) (hob _ rfl rfl [] [] [] .nil) .nil ?_
    exact awn_cond (c := .tmp 14) (b := true) rfl rfl (awk _)
  by_cases h4 : m.n4 ≤ 40
  case neg =>
    refine pieceSX pCall_sound (oo3a_sound true true true false true) 0 (r6b3 o0 o1 o2 o3 o4 m (bytes s) z) rfl ⟨⟨dcd_of (decide_eq_false h4), dcd_of (decide_eq_true h3), dcd_of (decide_eq_true h2), dcd_of (decide_eq_true h1), trivial⟩, trivial⟩ rfl 7 [(5, 5), (6, 6)] (D2 := []) rfl (hT _ _ _ rfl rfl) (hob _ rfl rfl [] [] [] .nil) .nil ?_
    exact awn_cond (c := .tmp 14) (b := true) rfl rfl (awk _)
  by_cases h5 : m.n5 ≤ 20
  case neg =>
    refine pieceSX pCall_sound (oo3a_sound true true true true false) 0 (r6b4 o0 o1 o2 o3 o4 m (bytes s) z) rfl ⟨⟨dcd_of (decide_eq_false h5), dcd_of (decide_eq_true h4), dcd_of (decide_eq_true h3), dcd_of (decide_eq_true h2), dcd_of (decide_eq_true h1), trivial⟩, trivial⟩ rfl 7 [(5, 5), (6, 6)] (D2 := []) rfl (hT _ _ _ rfl rfl) (hob _ rfl rfl [] [] [] .nil) .nil ?_
    exact awn_cond (c := .tmp 14) (b := true) rfl rfl (awk _)
  refine pieceSX pCall_sound (oo3a_sound true true true true true) 0 (r6b5 o0 o1 o2 o3 o4 m (bytes s) z) rfl ⟨⟨dcd_of (decide_eq_true h5), dcd_of (decide_eq_true h4), dcd_of (decide_eq_true h3), dcd_of (decide_eq_true h2), dcd_of (decide_eq_true h1), trivial⟩, trivial⟩ rfl 7 [(5, 5), (6, 6)] (D2 := []) rfl (hT _ _ _ rfl rfl) (hob _ rfl rfl [] [] [] .nil) .nil ?_
  refine awn_cond (c := .tmp 14) (b := false) rfl rfl (awn_skip ?_)
  have hll := leaves_len m.toMf ls ss xs
  have hR : MgR m o0 o1 o2 o3 o4 ls ss xs qs ws := ⟨⟨hl, hs, hx, by omega, by omega, by omega⟩, hp, hq, hq32, hw32, by omega, by omega⟩
  have hI := hR.i
  have hpl : (pubS s).length = 32 := pubS_len s
  have hfp : dgf (fn (pubS s)) = pubS s := dgf_of hpl
  by_cases hz : z < 0 ∨ 4 ≤ z
  · have hrd := r6dz o0 o1 o2 o3 o4 m ls ss xs (fn s) z (.bool false)
    have hre := r6ez o0 o1 o2 o3 o4 m ls ss xs (fn s) (fn (pubS s)) z
    rw [hfs] at hrd
    rw [hfs, hfp] at hre
    refine pieceSX pCall_sound (callO_sound (s20z _ _ _ _ _ _ _ _ _ _ _)) 0 hrd rfl ⟨⟨rfl, rfl, hI, hsl, hz⟩, trivial⟩ rfl 8 [(5, 5), (6, 6), (7, 7)] (k2 := [(2, i64 z), (3, pt 5), (4, pt 6), (6, .bool false), (7, pt 7), (8, i64 1)]) (os2 := lZ o0 o1 o2 o3 o4 m.all (bytes s)) (D2 := []) rfl
      (.cons ⟨rfl, .closed rfl⟩ (.cons ⟨rfl, .ptr rfl⟩ (.cons ⟨rfl, .ptr rfl⟩ (.cons ⟨rfl, .closed rfl⟩ (.cons ⟨rfl, .ptr rfl⟩ (.cons ⟨rfl, .closed rfl⟩ .nil)))))) (hob _ rfl rfl [7] _ _ (.cons ⟨rfl, ro_z33⟩ .nil)) .nil ?_
    refine pieceSX pCall_sound (orO_sound (callO_sound (s21z _ _ _ _ _ _ _ _ _ _ _)) (callO_sound (pb22 _ _))) 1 hre rfl ⟨⟨hsl, rfl, rfl⟩, ⟨rfl, rfl, hI, hsl, hz⟩, trivial⟩ rfl 10 [(5, 5), (6, 6), (7, 7), (8, 8), (9, 9)] (k2 := [(3, pt 5), (4, pt 6), (6, .bool false), (7, pt 7), (8, i64 1), (9, pt 8), (10, i64 1), (11, pt 9)]) (os2 := lZ o0 o1 o2 o3 o4 m.all (bytes s) ++ [(8, z33o), (9, .cells (bytes (pubS s)) 26)]) (D2 := []) rfl
      (.cons ⟨rfl, .ptr rfl⟩ (.cons ⟨rfl, .ptr rfl⟩ (.cons ⟨rfl, .closed rfl⟩ (.cons ⟨rfl, .ptr rfl⟩ (.cons ⟨rfl, .closed rfl⟩ (.cons ⟨rfl, .ptr rfl⟩ (.cons ⟨rfl, .closed rfl⟩ (.cons ⟨rfl, .ptr rfl⟩ .nil)))))))) (hob _ rfl rfl [7,8,9] _ [(7, z33o), (8, z33o), (9, .cells (bytes (pubS s)) 26)] (.cons ⟨rfl, ro_z33⟩ (.cons ⟨rfl, ro_z33⟩ (.cons ⟨rfl, .cells (RV.all bytes_c2)⟩ .nil)))) .nil ?_
    have hCh : ∀ bb, bb = chkS m ls ss xs qs ws (pubS s) → ChC m ls ss xs qs ws (pubS s) bb (.agg m.all.toArray) (dig (pubS s)) (HZ o0 o1 o2 o3 o4 m (bytes s) (bytes (pubS s))) := fun bb hb => ⟨rfl, rfl, hpl, hR.mh rfl rfl rfl rfl rfl, hb⟩
    cases hv : chkS m ls ss xs qs ws (pubS s) with
    | true =>
      have hrg := r6gzt o0 o1 o2 o3 o4 m ls ss xs (bytes s) (fn (pubS s)) qs ws
      rw [hfp] at hrg
      refine pieceF hm pCall_sound (oo6gz_sound h9 _ _ _ _ _ _ _ _) hrg ⟨trivial, hCh _ hv.symm, hCh _ hv.symm, ⟨rfl, rfl⟩, trivial⟩ ?_
      intro e T H he hr hn hg
      cases tag1 he
      exact ⟨.inr rfl, rfl, _, hr, rfl, keepF (by rw [hn]; show 5 ≤ 10; omega) hg⟩
    | false =>
      have hrg := r6gzf o0 o1 o2 o3 o4 m ls ss xs (bytes s) (fn (pubS s)) qs ws
      rw [hfp] at hrg
      refine pieceF hm pCall_sound (oo6gz_sound h9 _ _ _ _ _ _ _ _) hrg ⟨trivial, hCh _ hv.symm, hCh _ hv.symm, ⟨rfl, rfl⟩, trivial⟩ ?_
      intro e T H he hr hn hg
      cases tag1 he
      exact ⟨.inr rfl, rfl, _, hr, rfl, keepF (by rw [hn]; show 5 ≤ 10; omega) hg⟩
  · obtain ⟨i, rfl⟩ : ∃ i : Nat, z = (i : Int) := ⟨z.toNat, by omega⟩
    have hi : i < 4 := by omega
    have hxl : (rtM m.toMf ls ss xs).length = 32 := rootS_len _
    have hfx : dgf (fn (rtM m.toMf ls ss xs)) = rtM m.toMf ls ss xs := dgf_of hxl
    have hps := partS_32 (s := s) (i := i) (bs := rtM m.toMf ls ss xs)
    have hpsl := partS_len s i (rtM m.toMf ls ss xs)
    have hw2 := wayS4 (s := s) hi
    have hw3 := wayS_32 (i := i) (ls := leavesS s)
    generalize hX : rtM m.toMf ls ss xs = x at *
    generalize hP : partS s i x = ps at *
    generalize hW : wayS i (leavesS s) = way at *
    have hc1 := flat_c2 Ln.cells (fun x => x.cc2) ls
    have hc2 := flat_c2 Sr.cells (fun x => x.cc2) ss
    have hc3 := flat_c2 Ct.cells (fun x => x.cc2) xs
    have hrd := r6d o0 o1 o2 o3 o4 m ls ss xs (fn s) (fn x) i ps way (.bool false)
    have hre := r6e o0 o1 o2 o3 o4 (clO m.n1 (ls.flatMap Ln.cells) 37) (clO m.n2 (ss.flatMap Sr.cells) 104) (clO m.n3 (xs.flatMap Ct.cells) 106) m ls ss xs (fn s) (fn x) (fn (pubS s)) i ps way (mR m.toMf 7 (bytes x) (i : Int) 10 way.length)
    rw [hfs, hfx] at hrd
    rw [hfs, hfx, hfp] at hre
    have hAo : ∀ s', sg 5 s' 5 = some 5 → sg 5 s' 6 = some 6 → (∀ j, 7 ≤ j → j ≤ 12 → sg 5 s' j = some j) → ∀ (is : List Nat) (os : List AObj) (l : List (Nat × AObj)), F2 (fun (p q : Nat × AObj) => sg 5 s' q.1 = some p.1 ∧ RO (sg 5 s') p.2 q.2) (is.zip os) l → F2 (fun (p q : Nat × AObj) => sg 5 s' q.1 = some p.1 ∧ RO (sg 5 s') p.2 q.2) (([0,1,2,3,4,5,6,7,8,9,10,11,12] ++ is : List Nat).zip (xA o0 o1 o2 o3 o4 m.all (bytes s) (clO m.n1 (ls.flatMap Ln.cells) 37) (clO m.n2 (ss.flatMap Sr.cells) 104) (clO m.n3 (xs.flatMap Ct.cells) 106) ps way (mR m.toMf 7 (bytes x) (i : Int) 10 way.length) ++ os)) (lA o0 o1 o2 o3 o4 m.all (bytes s) (clO m.n1 (ls.flatMap Ln.cells) 37) (clO m.n2 (ss.flatMap Sr.cells) 104) (clO m.n3 (xs.flatMap Ct.cells) 106) ps way (mR m.toMf 7 (bytes x) (i : Int) 10 way.length) ++ l) := fun s' e5 e6 e7 is os l ho =>
      hob s' e5 e6 ([7,8,9,10,11,12] ++ is) _ _ (obU (e7 7 (by omega) (by omega)) (e7 8 (by omega) (by omega)) (e7 9 (by omega) (by omega)) (e7 10 (by omega) (by omega)) (e7 11 (by omega) (by omega)) (e7 12 (by omega) (by omega)) (clO_ro hc1) (clO_ro hc2) (clO_ro hc3) (mR_rv (m := m.toMf) (b := 7) (p := 10) (k := way.length) (x := x) (z := (i : Int)) (e7 7 (by omega) (by omega)) (e7 8 (by omega) (by omega)) (e7 9 (by omega) (by omega)) (e7 10 (by omega) (by omega)) (e7 11 (by omega) (by omega))) ho)
    have e7 : ∀ (s' : List (Nat × Nat)), sg 5 s' 7 = some 7 → sg 5 s' 8 = some 8 → sg 5 s' 9 = some 9 → sg 5 s' 10 = some 10 → sg 5 s' 11 = some 11 → sg 5 s' 12 = some 12 → ∀ j, 7 ≤ j → j ≤ 12 → sg 5 s' j = some j := fun s' g7 g8 g9 g10 g11 g12 j hj1 hj2 => by
      have : j = 7 ∨ j = 8 ∨ j = 9 ∨ j = 10 ∨ j = 11 ∨ j = 12 := by omega
      rcases this with rfl | rfl | rfl | rfl | rfl | rfl
      · exact g7
      · exact g8
      · exact g9
      · exact g10
      · exact g11
      · exact g12
    refine pieceSX pCall_sound (callO_sound (s20_sound _ _ _ _ _ _ _ _ _ _ _ _ _ _)) 0 hrd rfl ⟨⟨rfl, rfl, hI, hsl, hi, hX.symm, by rw [hX]; exact hP.symm, hW.symm⟩, trivial⟩ rfl 13 [(5, 5), (6, 6), (7, 7), (8, 8), (9, 9), (10, 10), (11, 11), (12, 12)] (k2 := [(2, i64 (i : Int)), (3, pt 5), (4, pt 6), (6, .bool false), (7, pt 12), (8, i64 0)]) (os2 := lA o0 o1 o2 o3 o4 m.all (bytes s) (clO m.n1 (ls.flatMap Ln.cells) 37) (clO m.n2 (ss.flatMap Sr.cells) 104) (clO m.n3 (xs.flatMap Ct.cells) 106) ps way (mR m.toMf 7 (bytes x) (i : Int) 10 way.length)) (D2 := []) rfl
      (.cons ⟨rfl, .closed rfl⟩ (.cons ⟨rfl, .ptr rfl⟩ (.cons ⟨rfl, .ptr rfl⟩ (.cons ⟨rfl, .closed rfl⟩ (.cons ⟨rfl, .ptr rfl⟩ (.cons ⟨rfl, .closed rfl⟩ .nil)))))) (hAo _ rfl rfl (e7 _ rfl rfl rfl rfl rfl rfl) [] [] [] .nil) .nil ?_
    refine pieceSX pCall_sound (orO_sound (callO_sound (s21_sound _ _ _ _ _ _ _ _ _ _ _ _ _ _ _ _ _ _)) (callO_sound (pb22 _ _))) 1 hre rfl ⟨⟨hsl, rfl, rfl⟩, ⟨rfl, rfl, hI, hsl, hi, fun _ => clO_ro hc1, fun _ => clO_ro hc2, fun _ => clO_ro hc3, fun _ => mR_rv rfl rfl rfl rfl rfl, hX.symm, by rw [hX]; exact hP.symm, hW.symm⟩, trivial⟩ rfl 17 [(5, 5), (6, 6), (7, 7), (8, 8), (9, 9), (10, 10), (11, 11), (12, 12), (13, 13), (14, 14), (15, 15), (16, 16)] (k2 := [(3, pt 5), (4, pt 6), (6, .bool false), (7, pt 12), (8, i64 0), (9, pt 15), (10, i64 0), (11, pt 16)])
      (os2 := lA o0 o1 o2 o3 o4 m.all (bytes s) (clO m.n1 (ls.flatMap Ln.cells) 37) (clO m.n2 (ss.flatMap Sr.cells) 104) (clO m.n3 (xs.flatMap Ct.cells) 106) ps way (mR m.toMf 7 (bytes x) (i : Int) 10 way.length) ++ [(13, grD ps), (14, grD way), (15, .cells (mB m.toMf x (i : Int) 13 way.length) 33), (16, .cells (bytes (pubS s)) 26)]) (D2 := []) rfl
      (.cons ⟨rfl, .ptr rfl⟩ (.cons ⟨rfl, .ptr rfl⟩ (.cons ⟨rfl, .closed rfl⟩ (.cons ⟨rfl, .ptr rfl⟩ (.cons ⟨rfl, .closed rfl⟩ (.cons ⟨rfl, .ptr rfl⟩ (.cons ⟨rfl, .closed rfl⟩ (.cons ⟨rfl, .ptr rfl⟩ .nil))))))))
      (hAo _ rfl rfl (e7 _ rfl rfl rfl rfl rfl rfl) [13,14,15,16] _ _ (.cons ⟨rfl, RO.grD⟩ (.cons ⟨rfl, RO.grD⟩ (.cons ⟨rfl, .cells (.cons (.closed rfl) (.cons (.closed rfl) (.cons (hl.rv rfl) (.cons (hs.rv rfl) (.cons (hx.rv rfl) (F2.append2 (RV.all bytes_c2) (.cons (.closed rfl) (.cons (.slice rfl) (.cons (.closed rfl) (.cons (.closed rfl) (.cons (.slice rfl) .nil)))))))))))⟩ (.cons ⟨rfl, .cells (RV.all bytes_c2)⟩ .nil))))) .nil ?_
    have hCh : ∀ bb, bb = chkS m ls ss xs qs ws (pubS s) → ChC m ls ss xs qs ws (pubS s) bb (.agg m.all.toArray) (dig (pubS s)) (HG o0 o1 o2 o3 o4 (clO m.n1 (ls.flatMap Ln.cells) 37) (clO m.n2 (ss.flatMap Sr.cells) 104) (clO m.n3 (xs.flatMap Ct.cells) 106) m (bytes s) (bytes x) (bytes (pubS s)) i ps way (mR m.toMf 7 (bytes x) (i : Int) 10 way.length) (mB m.toMf x (i : Int) 13 way.length)) := fun bb hb => ⟨rfl, rfl, hpl, hR.mh rfl rfl rfl rfl rfl, hb⟩
    have hSa : SaC m.toMf (yA m.toMf) (yB m.toMf) ls ss xs ps way x i 10 11 13 14 (.agg (mR m.toMf 7 (bytes x) (i : Int) 10 way.length).toArray) (.agg (mB m.toMf x (i : Int) 13 way.length).toArray) (HG o0 o1 o2 o3 o4 (clO m.n1 (ls.flatMap Ln.cells) 37) (clO m.n2 (ss.flatMap Sr.cells) 104) (clO m.n3 (xs.flatMap Ct.cells) 106) m (bytes s) (bytes x) (bytes (pubS s)) i ps way (mR m.toMf 7 (bytes x) (i : Int) 10 way.length) (mB m.toMf x (i : Int) 13 way.length)) :=
      ⟨rfl, rfl, hxl, cl_slh hl rfl, cl_slh hs rfl, cl_slh hx rfl, hl.slh rfl, hs.slh rfl, hx.slh rfl, rfl, rfl, rfl, rfl, hps, hw3, hpsl, by omega, by omega, by omega, by omega⟩
    cases hv : chkS m ls ss xs qs ws (pubS s) with
    | true =>
      have hrg := r6gt o0 o1 o2 o3 o4 (clO m.n1 (ls.flatMap Ln.cells) 37) (clO m.n2 (ss.flatMap Sr.cells) 104) (clO m.n3 (xs.flatMap Ct.cells) 106) m ls ss xs (bytes s) (fn x) (fn (pubS s)) i ps way qs ws
      rw [hfp, hfx] at hrg
      refine pieceF hm pCall_sound (oo6g_sound h9 _ _ _ _ _ _ _ _ _ _ _ _) hrg ⟨trivial, hCh _ hv.symm, hCh _ hv.symm, hSa, trivial⟩ ?_
      intro e T H he hr hn hg
      cases tag1 he
      exact ⟨.inr rfl, rfl, _, hr, rfl, keepF (by rw [hn]; show 5 ≤ 17; omega) hg⟩
    | false =>
      have hrg := r6gf o0 o1 o2 o3 o4 (clO m.n1 (ls.flatMap Ln.cells) 37) (clO m.n2 (ss.flatMap Sr.cells) 104) (clO m.n3 (xs.flatMap Ct.cells) 106) m ls ss xs (bytes s) (fn x) (fn (pubS s)) i ps way qs ws
      rw [hfp, hfx] at hrg
      refine pieceF hm pCall_sound (oo6g_sound h9 _ _ _ _ _ _ _ _ _ _ _ _) hrg ⟨trivial, hCh _ hv.symm, hCh _ hv.symm, hSa, trivial⟩ ?_
      intro e T H he hr hn hg
      cases tag1 he
      exact ⟨.inr rfl, rfl, _, hr, rfl, keepF (by rw [hn]; show 5 ≤ 17; omega) hg⟩
end Go.Abs

