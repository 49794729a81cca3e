/- A part of the proof that the law ManifestProofs returns true at every input and leaves its arguments as they were; no condition. -/
import Derived.Test.YtkkocgjpfakfpaaGreatSCf
import Derived.Test.YtkkocgjpfakfpaaGreatSBa
set_option linter.unusedSimpArgs false
set_option linter.unusedVariables false
namespace Go.Abs
open Go.Proofs
set_option maxRecDepth 1000000

/-- Digests of known bytes. -/
def sumO : CallF := fun f args H => match args with
  | [.int .u64 d, .slice (some ⟨id, off, none⟩) n _] => bif Nat.beq f 31 || Nat.beq f 33 then (match H.row id with
    | some cs => bif Nat.ble (off + n) cs.length && Nat.ble n 1000000 then (match u8s ((cs.drop off).take n) with
      | some bs => some (dig (sumS d bs), none)
      | none => none) else none
    | none => none) else none
  | _ => none
theorem sumO_sound : ∀ f args H v h, sumO f args H = some (v, h) → Does Tryz.prog f args H v (h.getD H) := by
  intro f args H v h hr
  unfold sumO at hr
  split at hr
  case h_2 => cases hr
  rename_i d id off n c
  obtain ⟨hf, hx⟩ := cond_opt hr
  clear hr
  split at hx
  case h_2 => cases hx
  rename_i cs hrow
  obtain ⟨hb, hx⟩ := cond_opt hx
  simp only [Bool.and_eq_true] at hb
  split at hx
  case h_2 => cases hx
  rename_i bs hbs
  cases hx
  have h1 := bleN hb.1
  have h2 := bleN hb.2
  have e := u8s_eq hbs
  have hu : ∀ v ∈ (cs.drop off).take n, isU8 v = true := by rw [e]; exact bytes_u8
  have hs : ∀ k, SoundC Tryz.prog (oneC k sumG) → Does Tryz.prog k [.int .u64 d, .slice (some ⟨id, off, none⟩) n c] H (dig (sumS d bs)) H := by
    intro k hk
    have := hk.same k [.int .u64 d, .slice (some ⟨id, off, none⟩) n c] H (dig (sumS d (unb ((cs.drop off).take n)))) (off + n ≤ cs.length ∧ n ≤ 1000000 ∧ ∀ v ∈ (cs.drop off).take n, isU8 v = true) (by simp only [oneC, Nat.beq_refl, cond_true, sumG, hrow]) ⟨h1, h2, hu⟩
    rw [e, unb_bytes] at this
    exact this
  simp only [Bool.or_eq_true] at hf
  rcases hf with hf | hf
  · have := beqN hf; subst this; exact hs 31 sumG31_sound
  · have := beqN hf; subst this; exact hs 33 sumG33_sound
end Go.Abs

namespace Go.Abs
open Go.Proofs
set_option maxRecDepth 100000

/-- A whole manifest. -/
structure Mg extends Mf where
  rt : Nat → Int
  si : Int
  a4 : Option Addr
  n4 : Nat
  c4 : Nat
  pi : Int
  pc : Int
  a5 : Option Addr
  n5 : Nat
  c5 : Nat
def Mg.rest (m : Mg) : List Value := bytes (dgf m.rt) ++ [i64 m.si, .slice m.a4 m.n4 m.c4, i64 m.pi, i64 m.pc, .slice m.a5 m.n5 m.c5]
def Mg.all (m : Mg) : List Value := m.mc m.rest
theorem Mg.rest_len (m : Mg) : m.rest.length = 37 := by simp [Mg.rest, bytes_len, dgf_len]
def SN (j : Nat) (a : Option Addr) (n c : Nat) : Prop := ((a = none ∨ a = some ⟨0, 0, some 1⟩) ∧ n = 0 ∧ c = 0) ∨ (a = some ⟨j, 0, none⟩ ∧ c = capG)
theorem SN.rv {σ : Nat → Option Nat} {i j n c : Nat} {a : Option Addr} (h : SN i a n c) (hj : σ i = some i) : RV σ (.slice a n c) (.slice a n c) := by
  rcases h with ⟨rfl | rfl, rfl, rfl⟩ | ⟨rfl, rfl⟩
  · exact .closed rfl
  · exact .anonE
  · exact .slice hj
structure Mg.ok (m : Mg) (o0 o1 o2 : AObj) (ls : List Ln) (ss : List Sr) (xs : List Ct) : Prop where
  f : m.toMf.ok o0 o1 o2 ls ss xs
  p : SN 3 m.a4 m.n4 m.c4
  q : SN 4 m.a5 m.n5 m.c5
theorem F2.append2 {σ : Nat → Option Nat} {a b c d : List Value} (h : F2 (RV σ) a b) (h' : F2 (RV σ) c d) : F2 (RV σ) (a ++ c) (b ++ d) := by
  induction h with
  | nil => exact h'
  | cons hab _ ih => exact .cons hab ih
theorem Mg.rvR {σ : Nat → Option Nat} {m : Mg} {o0 o1 o2 : AObj} {ls : List Ln} {ss : List Sr} {xs : List Ct} (h : m.ok o0 o1 o2 ls ss xs) (h3 : σ 3 = some 3) (h4 : σ 4 = some 4) : F2 (RV σ) m.rest m.rest :=
  F2.append2 (RV.all bytes_c2) (.cons (.closed rfl) (.cons (h.p.rv (j := 3) h3) (.cons (.closed rfl) (.cons (.closed rfl) (.cons (h.q.rv (j := 4) h4) .nil)))))
theorem Mg.rv {σ : Nat → Option Nat} {m : Mg} {o0 o1 o2 : AObj} {ls : List Ln} {ss : List Sr} {xs : List Ct} (h : m.ok o0 o1 o2 ls ss xs) (h0 : σ 0 = some 0) (h1 : σ 1 = some 1) (h2 : σ 2 = some 2) (h3 : σ 3 = some 3) (h4 : σ 4 = some 4) : F2 (RV σ) m.all m.all :=
  .cons (.closed rfl) (.cons (.closed rfl) (.cons (h.f.l.rv h0) (.cons (h.f.s.rv h1) (.cons (h.f.x.rv h2) (Mg.rvR h h3 h4)))))

noncomputable def fewO (bs : List Bool) : OpO := match bs with
  | [b1, b2, b3, b4, b5] => orO (forceO Tryz.prog 6 (.bool b1)) (orO (forceO Tryz.prog 11 (.bool b2)) (orO (forceO Tryz.prog 17 (.bool b3)) (orO (forceO Tryz.prog 24 (.bool b4)) (forceO Tryz.prog 32 (.bool b5)))))
  | _ => noOO
theorem fewO_sound (b1 b2 b3 b4 b5 : Bool) : SoundO Tryz.prog (fewO [b1, b2, b3, b4, b5]) := orO_sound forceO_sound (orO_sound forceO_sound (orO_sound forceO_sound (orO_sound forceO_sound forceO_sound)))
noncomputable def oo3a (bs : List Bool) : OpO := callO Tryz.prog (inC Tryz.prog pCall (fewO bs) 60 [8])
theorem oo3a_sound (b1 b2 b3 b4 b5 : Bool) : SoundO Tryz.prog (oo3a [b1, b2, b3, b4, b5]) := callO_sound (inC_sound hm pCall_sound (fewO_sound b1 b2 b3 b4 b5))

abbrev TA (k : Int) : List Value := mkT 110 [(1, i64 k), (3, pt 5), (5, pt 6)] jX
abbrev HA (o0 o1 o2 : AObj) (m : Mg) (l : Ln) : Heap := mkH 7 [(0, o0), (1, o1), (2, o2), (5, .cells m.all 33), (6, .cells l.cells 37)] []
theorem r3a (o0 o1 o2 : AObj) (m : Mg) (k : Int) (l : Ln) : (ex3 Tryz.prog pCall noOO 60 (pre 0 (codeOf Tryz.f3 [])) ⟨⟨[.agg m.all.toArray, i64 k, .agg l.cells.toArray] ++ List.replicate 107 undef, ⟨5, [(0, o0), (1, o1), (2, o2)]⟩, []⟩, True⟩).map (obs3 [1,3,5] [0,1,2,5,6])
  = some (⟨0, [i64 k, pt 5, pt 6], 110, 7, [o0, o1, o2, .cells m.all 33, .cells l.cells 37], []⟩, True) := by kernel_rfl
def dcd (n k : Nat) (b : Bool) : Prop := some (Value.bool (decide ((n : Int) ≤ (k : Int)))) = some (Value.bool b)
theorem dcd_of {n k : Nat} {b : Bool} (h : decide (n ≤ k) = b) : dcd n k b := by
  unfold dcd
  rw [← h]
  congr 2
  simp

theorem r3b0 (o0 o1 o2 : AObj) (m : Mg) (k : Int) (l : Ln) : (ex3 Tryz.prog pCall (oo3a [false, true, true, true, true]) 60 (pre 0 (codeOf Tryz.f3 [1,0])) ⟨⟨TA k, HA o0 o1 o2 m l, []⟩, True⟩).map (obs3 [1,3,5,14] [0,1,2,5,6])
  = some (⟨0, [i64 k, pt 5, pt 6, .bool true], 110, 8, [o0, o1, o2, .cells m.all 33, .cells l.cells 37], []⟩, (dcd m.n1 20 false ∧ True) ∧ True) := by kernel_rfl
theorem r3b1 (o0 o1 o2 : AObj) (m : Mg) (k : Int) (l : Ln) : (ex3 Tryz.prog pCall (oo3a [true, false, true, true, true]) 60 (pre 0 (codeOf Tryz.f3 [1,0])) ⟨⟨TA k, HA o0 o1 o2 m l, []⟩, True⟩).map (obs3 [1,3,5,14] [0,1,2,5,6])
  = some (⟨0, [i64 k, pt 5, pt 6, .bool true], 110, 8, [o0, o1, o2, .cells m.all 33, .cells l.cells 37], []⟩, (dcd m.n2 20 false ∧ dcd m.n1 20 true ∧ True) ∧ True) := by kernel_rfl
theorem r3b2 (o0 o1 o2 : AObj) (m : Mg) (k : Int) (l : Ln) : (ex3 Tryz.prog pCall (oo3a [true, true, false, true, true]) 60 (pre 0 (codeOf Tryz.f3 [1,0])) ⟨⟨TA k, HA o0 o1 o2 m l, []⟩, True⟩).map (obs3 [1,3,5,14] [0,1,2,5,6])
  = some (⟨0, [i64 k, pt 5, pt 6, .bool true], 110, 8, [o0, o1, o2, .cells m.all 33, .cells l.cells 37], []⟩, (dcd m.n3 20 false ∧ dcd m.n2 20 true ∧ dcd m.n1 20 true ∧ True) ∧ True) := by kernel_rfl
theorem r3b3 (o0 o1 o2 : AObj) (m : Mg) (k : Int) (l : Ln) : (ex3 Tryz.prog pCall (oo3a [true, true, true, false, true]) 60 (pre 0 (codeOf Tryz.f3 [1,0])) ⟨⟨TA k, HA o0 o1 o2 m l, []⟩, True⟩).map (obs3 [1,3,5,14] [0,1,2,5,6])
  = some (⟨0, [i64 k, pt 5, pt 6, .bool true], 110, 8, [o0, o1, o2, .cells m.all 33, .cells l.cells 37], []⟩, (dcd m.n4 40 false ∧ dcd m.n3 20 true ∧ dcd m.n2 20 true ∧ dcd m.n1 20 true ∧ True) ∧ True) := by kernel_rfl
theorem r3b4 (o0 o1 o2 : AObj) (m : Mg) (k : Int) (l : Ln) : (ex3 Tryz.prog pCall (oo3a [true, true, true, true, false]) 60 (pre 0 (codeOf Tryz.f3 [1,0])) ⟨⟨TA k, HA o0 o1 o2 m l, []⟩, True⟩).map (obs3 [1,3,5,14] [0,1,2,5,6])
  = some (⟨0, [i64 k, pt 5, pt 6, .bool true], 110, 8, [o0, o1, o2, .cells m.all 33, .cells l.cells 37], []⟩, (dcd m.n5 20 false ∧ dcd m.n4 40 true ∧ dcd m.n3 20 true ∧ dcd m.n2 20 true ∧ dcd m.n1 20 true ∧ True) ∧ True) := by kernel_rfl
theorem r3b5 (o0 o1 o2 : AObj) (m : Mg) (k : Int) (l : Ln) : (ex3 Tryz.prog pCall (oo3a [true, true, true, true, true]) 60 (pre 0 (codeOf Tryz.f3 [1,0])) ⟨⟨TA k, HA o0 o1 o2 m l, []⟩, True⟩).map (obs3 [1,3,5,14] [0,1,2,5,6])
  = some (⟨0, [i64 k, pt 5, pt 6, .bool false], 110, 8, [o0, o1, o2, .cells m.all 33, .cells l.cells 37], []⟩, (dcd m.n5 20 true ∧ dcd m.n4 40 true ∧ dcd m.n3 20 true ∧ dcd m.n2 20 true ∧ dcd m.n1 20 true ∧ True) ∧ True) := by kernel_rfl

def awG : List Value → Heap → Option CallR := fun args _ => match args with
  | [] => some (.same (.bool true) True)
  | _ => none
theorem awG_sound (h9 : ∀ H, Does Tryz.prog 9 [] H (.bool true) H) : SoundC Tryz.prog (oneC 9 awG) := oneC_sound fun args H r h => by
  unfold awG at h
  split at h
  case h_2 => cases h
  cases h
  intro _
  exact h9 H
/-- The function ends with true. -/
abbrev EndT (H0 : Heap) : APost := fun ex T' H' D' => (ex = .normal ∨ ex = .ret) ∧ (D'.all fun d => quietDefer Tryz.prog d.1 && callable Tryz.prog d.1) = true ∧ ∃ u, resA Tryz.prog Tryz.f3 T' H' = some u ∧ u = .bool true ∧ Keep H0 H'
theorem r3c (b v : Value) (k : Int) (H : Heap) : (ex3 Tryz.prog pCall (callO Tryz.prog (oneC 9 awG)) 60 (codeOf Tryz.f3 [1,0,1,0]) ⟨⟨mkT 110 [(1, i64 k), (3, pt 5), (5, pt 6), (14, b)] jX, H, []⟩, True⟩).map (fun r => (r.1.tag, resA Tryz.prog Tryz.f3 r.2.T r.2.H, r.2.H, r.2.D, r.2.L))
  = some (1, some (.bool true), H, [], True ∧ True) := by kernel_rfl
theorem keep5 {o0 o1 o2 : AObj} {H : Heap} (h1 : 5 ≤ H.next) (g0 : H.get 0 = o0) (g1 : H.get 1 = o1) (g2 : H.get 2 = o2) (g3 : H.get 3 = .dead) (g4 : H.get 4 = .dead) : Keep ⟨5, [(0, o0), (1, o1), (2, o2)]⟩ H := ⟨h1, fun id hid => by
  have : id = 0 ∨ id = 1 ∨ id = 2 ∨ id = 3 ∨ id = 4 := by have : id < 5 := hid; omega
  rcases this with rfl | rfl | rfl | rfl | rfl
  · rw [g0]; rfl
  · rw [g1]; rfl
  · rw [g2]; rfl
  · rw [g3]; rfl
  · rw [g4]; rfl⟩
/-- A piece that ends the function and leaves the heap alone. -/
theorem pieceZ {call : CallF} (hO : ∀ f args H v h, call f args H = some (v, h) → Does Tryz.prog f args H v (h.getD H)) {OO : OpO} (hOO : SoundO Tryz.prog OO) {n m : Nat} {c : Code} {T : List Value} {H H0 : Heap} {L : Prop} (h : (ex3 Tryz.prog call OO m c ⟨⟨T, H, []⟩, True⟩).map (fun r => (r.1.tag, resA Tryz.prog Tryz.f3 r.2.T r.2.H, r.2.H, r.2.D, r.2.L)) = some (1, some (.bool true), H, [], L)) (hL : L) (hk : Keep H0 H) :
    Awn Tryz.prog n c (EndT H0) T H [] := by
  cases hr : ex3 Tryz.prog call OO m c ⟨⟨T, H, []⟩, True⟩ with
  | none => rw [hr] at h; cases h
  | some r =>
    rw [hr] at h
    simp only [Option.map_some, Option.some.injEq, Prod.mk.injEq] at h
    obtain ⟨h1, h2, h3, h4, h5⟩ := h
    refine awn_of (awp_mono (ex3_sound hm hO hOO m c _ r hr (h5 ▸ hL)).2 ?_)
    rintro e T H D ⟨rfl, rfl, rfl, rfl⟩
    have := tag1 h1
    refine ⟨.inr (by rw [this]; rfl), ?_, _, h2, rfl, ?_⟩
    · show (List.all r.2.D _) = true
      rw [h4]; rfl
    · show Keep H0 r.2.H
      rw [h3]; exact hk


abbrev TB (k : Int) (n : Nat) : List Value := mkT 110 [(1, i64 k), (3, pt 5), (5, pt 6), (7, sl 7 n)] jX
abbrev HB (o0 o1 o2 : AObj) (m : Mg) (l : Ln) (ds : List (List Int)) : Heap := mkH 8 [(0, o0), (1, o1), (2, o2), (5, .cells m.all 33), (6, .cells l.cells 37), (7, grD ds)] []
theorem r3d (o0 o1 o2 : AObj) (m : Mg) (ls : List Ln) (ss : List Sr) (xs : List Ct) (b : Value) (k : Int) (l : Ln) : (ex3 Tryz.prog pCall (callO Tryz.prog (oneC 10 (lvG m.toMf ls ss xs))) 60 (pre 0 (codeOf Tryz.f3 [1,1])) ⟨⟨mkT 110 [(1, i64 k), (3, pt 5), (5, pt 6), (14, b)] jX, HA o0 o1 o2 m l, []⟩, True⟩).map (obs3 [1,3,5,7] [0,1,2,5,6,7])
  = some (⟨0, [i64 k, pt 5, pt 6, sl 7 (leaves m.toMf ls ss xs).length], 110, 8, [o0, o1, o2, .cells m.all 33, .cells l.cells 37, grD (leaves m.toMf ls ss xs)], []⟩, LvC m.toMf ls ss xs (HA o0 o1 o2 m l) (.agg m.all.toArray) ∧ True) := by kernel_rfl
theorem r3e (o0 o1 o2 : AObj) (m : Mg) (n : Nat) (ds : List (List Int)) (k : Int) (l : Ln) : (ex3 Tryz.prog pCall noOO 60 (pre 0 (codeOf Tryz.f3 [1,1,1,0])) ⟨⟨TB k n, HB o0 o1 o2 m l ds, []⟩, True⟩).map (obsQ [1,3,5,7,32])
  = some (⟨0, [i64 k, pt 5, pt 6, sl 7 n, .bool ((n : Int) != IntKind.i64.wrap (IntKind.i64.wrap (IntKind.i64.wrap (1 + (m.n1 : Int)) + (m.n2 : Int)) + (m.n3 : Int)))], 110, HB o0 o1 o2 m l ds, []⟩, True) := by kernel_rfl
theorem r3f (o0 o1 o2 : AObj) (m : Mg) (n : Nat) (b : Value) (ds : List (List Int)) (k : Int) (l : Ln) : (ex3 Tryz.prog pCall noOO 60 (pre 0 (codeOf Tryz.f3 [1,1,1,1,0])) ⟨⟨mkT 110 [(1, i64 k), (3, pt 5), (5, pt 6), (7, sl 7 n), (32, b)] jX, HB o0 o1 o2 m l ds, []⟩, True⟩).map (obsQ [1,3,5,7,36])
  = some (⟨0, [i64 k, pt 5, pt 6, sl 7 n, .bool ((m.n1 : Int) == 0)], 110, HB o0 o1 o2 m l ds, []⟩, True) := by kernel_rfl
theorem r3g (v b : Value) (k : Int) (H : Heap) : (ex3 Tryz.prog pCall (callO Tryz.prog (oneC 9 awG)) 60 (codeOf Tryz.f3 [1,1,1,1,0,1,0]) ⟨⟨mkT 110 [(1, i64 k), (3, pt 5), (5, pt 6), (7, v), (36, b)] jX, H, []⟩, True⟩).map (fun r => (r.1.tag, resA Tryz.prog Tryz.f3 r.2.T r.2.H, r.2.H, r.2.D, r.2.L))
  = some (1, some (.bool true), H, [], True ∧ True) := by kernel_rfl
theorem r3h (o0 o1 o2 : AObj) (m : Mg) (n : Nat) (b : Value) (ds : List (List Int)) (k : Int) (l : Ln) : (ex3 Tryz.prog pCall (remO Tryz.prog 44) 60 (pre 1 (codeOf Tryz.f3 [1,1,1,1,1])) ⟨⟨mkT 110 [(1, i64 k), (3, pt 5), (5, pt 6), (7, sl 7 n), (36, b)] jX, HB o0 o1 o2 m l ds, []⟩, True⟩).map (obs3 [3,5,7,8,9] [0,1,2,5,6,7,8])
  = some (⟨0, [pt 5, pt 6, sl 7 n, i64 (IntKind.i64.wrap ((IntKind.u64.wrap k).tmod (IntKind.u64.wrap (m.n1 : Int)))), pt 8], 110, 9, [o0, o1, o2, .cells m.all 33, .cells l.cells 37, grD ds, .cells m.all 33], []⟩,
    (IntKind.u64 = IntKind.u64 ∧ IntKind.u64.wrap (m.n1 : Int) ≠ 0) ∧ True) := by kernel_rfl
abbrev TC (n k : Nat) : List Value := mkT 110 [(3, pt 5), (5, pt 6), (7, sl 7 n), (8, i64 (k : Int)), (9, pt 8)] jX
abbrev mA (m : Mg) (j n1 : Nat) : List Value := mcs m.p m.d (some ⟨j, 0, none⟩) n1 capG m.a2 m.n2 m.c2 m.a3 m.n3 m.c3 m.rest
abbrev HC (o0 o1 o2 : AObj) (mc : List Value) (l : Ln) (ds : List (List Int)) : Heap := mkH 9 [(0, o0), (1, o1), (2, o2), (5, .cells mc 33), (6, .cells l.cells 37), (7, grD ds), (8, .cells mc 33)] []

noncomputable def oo3D : OpO := orO (bldF Tryz.prog 47) (orO (bldF Tryz.prog 54) (orO (sliceU Tryz.prog 51) (orO (appF Tryz.prog 52) (orO (appO Tryz.prog 55) (orO (sliceU Tryz.prog 60) (appO Tryz.prog 61))))))
theorem oo3D_sound : SoundO Tryz.prog oo3D := orO_sound bldF_sound (orO_sound bldF_sound (orO_sound sliceU_sound (orO_sound appF_sound (orO_sound appO_sound (orO_sound sliceU_sound appO_sound)))))
theorem r3D (o1 o2 : AObj) (m : Mg) (n k n1 : Nat) (ds : List (List Int)) (cs0 : List Value) (l : Ln) : (ex3 Tryz.prog pCall oo3D 60 (pre 0 (codeOf Tryz.f3 [1,1,1,1,1,1,1])) ⟨⟨TC n k, HC (.ro cs0) o1 o2 (mA m 0 n1) l ds, []⟩, True⟩).map (obs3 [3,5,7,8,9] [0,1,2,5,6,7,8,13])
  = some (⟨0, [pt 5, pt 6, sl 7 n, i64 ((k : Nat) : Int), pt 8], 110, 14, [.ro cs0, o1, o2, .cells (mA m 0 n1) 33, .cells l.cells 37, grD ds, .cells (mA m 13 (k + 1 + (n1 - (IntKind.i64.wrap ((k : Int) + 1)).toNat))) 33, .grow (((cs0.take (k * (37 + 1))).take (k * (37 + 1)) ++ l.cells).take ((k + 1) * (37 + 1)) ++ (cs0.drop (0 + (IntKind.i64.wrap ((k : Int) + 1)).toNat * 38)).take ((n1 - (IntKind.i64.wrap ((k : Int) + 1)).toNat) * (37 + 1))) 37], []⟩,
    AppC 38 37 80 37 37 0 capG (k + 1) (n1 - (IntKind.i64.wrap ((k : Int) + 1)).toNat) (0 + (IntKind.i64.wrap ((k : Int) + 1)).toNat * 38) ((cs0.take (k * (37 + 1))).take (k * (37 + 1)) ++ l.cells) cs0 ∧ (capG ≤ capG ∧ (0 : Int) ≤ IntKind.i64.wrap ((k : Int) + 1) ∧ IntKind.i64.wrap ((k : Int) + 1) ≤ (n1 : Int) ∧ (n1 : Int) ≤ (n1 : Int) ∧ (IntKind.i64.wrap ((k : Int) + 1) = 0 ∨ IntKind.i64.wrap ((k : Int) + 1) < (n1 : Int))) ∧ some (sl 0 n1) = some (sl 0 n1) ∧ AppC 38 37 80 37 37 0 capG k 1 0 (cs0.take (k * (37 + 1))) l.cells ∧ True ∧ (AppN 38 37 80 k 0 cs0 ∧ ∀ v ∈ cs0.take (k * (37 + 1)), c2 v = true) ∧ (capG ≤ capG ∧ (0 : Int) ≤ 0 ∧ (0 : Int) ≤ (k : Int) ∧ (k : Int) ≤ (n1 : Int) ∧ ((0 : Int) = 0 ∨ (0 : Int) < (n1 : Int))) ∧ True ∧ True) := by kernel_rfl

noncomputable def oo3C : OpO := orO (bldF Tryz.prog 47) (orO (bldF Tryz.prog 54) (orO (sliceU Tryz.prog 51) (orO (appF Tryz.prog 52) (orO (appO Tryz.prog 55) (sliceE Tryz.prog 60)))))
theorem oo3C_sound : SoundO Tryz.prog oo3C := orO_sound bldF_sound (orO_sound bldF_sound (orO_sound sliceU_sound (orO_sound appF_sound (orO_sound appO_sound sliceE_sound))))
theorem r3C (o1 o2 : AObj) (m : Mg) (n k n1 : Nat) (ds : List (List Int)) (cs0 : List Value) (l : Ln) : (ex3 Tryz.prog pCall oo3C 60 (pre 0 (codeOf Tryz.f3 [1,1,1,1,1,1,1])) ⟨⟨TC n k, HC (.ro cs0) o1 o2 (mA m 0 n1) l ds, []⟩, True⟩).map (obs3 [3,5,7,8,9] [0,1,2,5,6,7,8,12])
  = some (⟨0, [pt 5, pt 6, sl 7 n, i64 ((k : Nat) : Int), pt 8], 110, 13, [.ro cs0, o1, o2, .cells (mA m 0 n1) 33, .cells l.cells 37, grD ds, .cells (mA m 12 (k + 1)) 33, .grow ((cs0.take (k * (37 + 1))).take (k * (37 + 1)) ++ l.cells) 37], []⟩,
    IntKind.i64.wrap ((k : Int) + 1) = (n1 : Int) ∧ some (sl 0 n1) = some (sl 0 n1) ∧ AppC 38 37 80 37 37 0 capG k 1 0 (cs0.take (k * (37 + 1))) l.cells ∧ True ∧ (AppN 38 37 80 k 0 cs0 ∧ ∀ v ∈ cs0.take (k * (37 + 1)), c2 v = true) ∧ (capG ≤ capG ∧ (0 : Int) ≤ 0 ∧ (0 : Int) ≤ (k : Int) ∧ (k : Int) ≤ (n1 : Int) ∧ ((0 : Int) = 0 ∨ (0 : Int) < (n1 : Int))) ∧ True ∧ True) := by kernel_rfl

noncomputable def oo3B : OpO := orO (bldF Tryz.prog 47) (orO (bldF Tryz.prog 54) (orO (sliceU Tryz.prog 51) (orO (appQ Tryz.prog 52) (orO (sliceU Tryz.prog 60) (appO Tryz.prog 61)))))
theorem oo3B_sound : SoundO Tryz.prog oo3B := orO_sound bldF_sound (orO_sound bldF_sound (orO_sound sliceU_sound (orO_sound appQ_sound (orO_sound sliceU_sound appO_sound))))
theorem r3B (o1 o2 : AObj) (m : Mg) (n k n1 : Nat) (ds : List (List Int)) (cs0 : List Value) (l : Ln) : (ex3 Tryz.prog pCall oo3B 60 (pre 0 (codeOf Tryz.f3 [1,1,1,1,1,1,1])) ⟨⟨TC n 0, HC (.ro cs0) o1 o2 (mA m 0 n1) l ds, []⟩, True⟩).map (obs3 [3,5,7,8,9] [0,1,2,5,6,7,8,12])
  = some (⟨0, [pt 5, pt 6, sl 7 n, i64 ((0 : Nat) : Int), pt 8], 110, 13, [.ro cs0, o1, o2, .cells (mA m 0 n1) 33, .cells l.cells 37, grD ds, .cells (mA m 12 (1 + (n1 - 1))) 33, .grow (l.cells ++ (cs0.drop 38).take ((n1 - 1) * (37 + 1))) 37], []⟩,
    AppC 38 37 80 37 37 0 capG 1 (n1 - 1) 38 l.cells cs0 ∧ (capG ≤ capG ∧ (0 : Int) ≤ 1 ∧ (1 : Int) ≤ (n1 : Int) ∧ (n1 : Int) ≤ (n1 : Int) ∧ ((1 : Int) = 0 ∨ (1 : Int) < (n1 : Int))) ∧ some (sl 0 n1) = some (sl 0 n1) ∧ True ∧ 38 = 38 ∧ (capG ≤ capG ∧ (0 : Int) ≤ 0 ∧ (0 : Int) ≤ ((0 : Nat) : Int) ∧ ((0 : Nat) : Int) ≤ (n1 : Int) ∧ ((0 : Int) = 0 ∨ (0 : Int) < (n1 : Int))) ∧ True ∧ True) := by kernel_rfl

noncomputable def oo3A : OpO := orO (bldF Tryz.prog 47) (orO (bldF Tryz.prog 54) (orO (sliceU Tryz.prog 51) (orO (appQ Tryz.prog 52) (sliceE Tryz.prog 60))))
theorem oo3A_sound : SoundO Tryz.prog oo3A := orO_sound bldF_sound (orO_sound bldF_sound (orO_sound sliceU_sound (orO_sound appQ_sound sliceE_sound)))
theorem r3A (o1 o2 : AObj) (m : Mg) (n k n1 : Nat) (ds : List (List Int)) (cs0 : List Value) (l : Ln) : (ex3 Tryz.prog pCall oo3A 60 (pre 0 (codeOf Tryz.f3 [1,1,1,1,1,1,1])) ⟨⟨TC n 0, HC (.ro cs0) o1 o2 (mA m 0 1) l ds, []⟩, True⟩).map (obs3 [3,5,7,8,9] [0,1,2,5,6,7,8,11])
  = some (⟨0, [pt 5, pt 6, sl 7 n, i64 ((0 : Nat) : Int), pt 8], 110, 12, [.ro cs0, o1, o2, .cells (mA m 0 1) 33, .cells l.cells 37, grD ds, .cells (mA m 11 1) 33, .grow (l.cells) 37], []⟩,
    (1 : Int) = (1 : Int) ∧ some (sl 0 1) = some (sl 0 1) ∧ True ∧ 38 = 38 ∧ (capG ≤ capG ∧ (0 : Int) ≤ 0 ∧ (0 : Int) ≤ ((0 : Nat) : Int) ∧ ((0 : Nat) : Int) ≤ ((1 : Nat) : Int) ∧ ((0 : Int) = 0 ∨ (0 : Int) < ((1 : Nat) : Int))) ∧ True ∧ True) := by kernel_rfl

end Go.Abs

namespace Go.Abs
open Go.Proofs
set_option maxRecDepth 100000

theorem flat_len {α : Type} (g : α → List Value) (k : Nat) : ∀ (l : List α), (∀ x, (g x).length = k) → (l.flatMap g).length = l.length * k
  | [], _ => by simp
  | x :: l, h => by
    have := flat_len g k l h
    simp only [List.flatMap_cons, List.length_append, List.length_cons, h x, this, Nat.add_mul]
    omega
theorem set_flat {α : Type} (g : α → List Value) (n : Nat) (hg : ∀ x, (g x).length = n) (y : α) : ∀ (l : List α) (k : Nat), k < l.length → (l.set k y).flatMap g = (l.flatMap g).take (k * n) ++ g y ++ (l.flatMap g).drop ((k + 1) * n)
  | [], k, h => by simp at h
  | x :: l, 0, _ => by
    have h1 := hg x
    simp only [List.set_cons_zero, List.flatMap_cons, Nat.zero_mul, List.take_zero, List.nil_append, Nat.zero_add, Nat.one_mul]
    congr 1
    rw [← h1, List.drop_left' rfl]
  | x :: l, k + 1, h => by
    have h1 := hg x
    have ih := set_flat g n hg y l k (by simpa using h)
    simp only [List.set_cons_succ, List.flatMap_cons, ih]
    have e1 : (k + 1) * n = n + k * n := by rw [Nat.add_mul]; omega
    have e2 : (k + 1 + 1) * n = n + (k + 1) * n := by rw [Nat.add_mul (k + 1)]; omega
    have e3 : (g x ++ l.flatMap g).take (n + k * n) = g x ++ (l.flatMap g).take (k * n) := by rw [← h1, List.take_length_add_append]
    have e4 : (g x ++ l.flatMap g).drop (n + (k + 1) * n) = (l.flatMap g).drop ((k + 1) * n) := by rw [← h1, List.drop_length_add_append]
    rw [e2, e4, e1, e3]
    simp [List.append_assoc]

abbrev HD (o0 o1 o2 : AObj) (mc mc2 : List Value) (l : Ln) (ds : List (List Int)) (cs1 : List Value) : Heap := mkH 10 [(0, o0), (1, o1), (2, o2), (5, .cells mc 33), (6, .cells l.cells 37), (7, grD ds), (8, .cells mc2 33), (9, .grow cs1 37)] []

theorem lines_c2 {ls : List Ln} : ∀ v ∈ ls.flatMap Ln.cells, c2 v = true := fun v hv => by
  obtain ⟨x, _, hx⟩ := List.mem_flatMap.1 hv
  exact x.cc2 v hx
theorem Ln.ones (l : Ln) : ∀ v ∈ l.cells, one v = true := by
  intro v hv
  rcases List.mem_append.1 hv with hv | hv
  · obtain ⟨b, _, rfl⟩ := List.mem_map.1 hv; rfl
  · obtain ⟨b, _, rfl⟩ := List.mem_map.1 hv; rfl
theorem lines_one {ls : List Ln} : ∀ v ∈ ls.flatMap Ln.cells, one v = true := fun v hv => by
  obtain ⟨x, _, hx⟩ := List.mem_flatMap.1 hv
  exact x.ones v hx

theorem lawR10 {Q : APost} {o0 o1 o2 : AObj} {m : Mg} {ls : List Ln} {ss : List Sr} {xs : List Ct} (h : m.ok o0 o1 o2 ls ss xs) (l : Ln) (ds : List (List Int)) (n k : Nat) (hk : k < ls.length) (hb : ls.length ≤ 1000)
    (hQ : Awn Tryz.prog 5 (codeOf Tryz.f3 [1,1,1,1,1,1,1,1]) Q (TC n k) (HD o0 o1 o2 m.all (mA m 9 m.n1) l ds ((ls.set k l).flatMap Ln.cells)) []) :
    Awn Tryz.prog 5 (codeOf Tryz.f3 [1,1,1,1,1,1,1]) Q (TC n k) (HC o0 o1 o2 m.all l ds) [] := by
  have hn := h.f.l.n
  obtain ⟨ha, hcp, ho⟩ := h.f.l.pos (by omega)
  have hmA : m.all = mA m 0 m.n1 := by simp only [Mg.all, Mf.mc, mA]; rw [ha, hcp]
  have hl0 := flat_len Ln.cells 38 ls (fun x => x.len)
  have hll := l.len
  have hset := set_flat Ln.cells 38 (fun x => x.len) l ls k hk
  have hw := wrap_i1 (i := k) (by omega)
  generalize hcs : ls.flatMap Ln.cells = cs0 at *
  have hA1 : (cs0.take (k * (37 + 1))).take (k * (37 + 1)) = cs0.take (k * 38) := by rw [List.take_take]; congr 1; omega
  have hAl : (cs0.take (k * 38)).length = k * 38 := by rw [List.length_take]; omega
  have hcone : ∀ v ∈ cs0, one v = true := by rw [← hcs]; exact lines_one
  have hcc : ∀ v ∈ cs0, c2 v = true := by rw [← hcs]; exact lines_c2
  have hap1 : AppC 38 37 80 37 37 0 capG k 1 0 (cs0.take (k * (37 + 1))) l.cells := by
    refine ⟨rfl, by omega, by omega, by omega, rfl, rfl, rfl, ?_, by rw [hll]; omega, fun v hv => l.ones v (List.mem_of_mem_drop (List.mem_of_mem_take hv))⟩
    rw [show k * (37 + 1) = k * 38 from rfl, hAl]; omega
  have hro : ∀ (σ : Nat → Option Nat), σ 0 = some 0 → σ 1 = some 1 → σ 2 = some 2 → σ 3 = some 3 → σ 4 = some 4 → F2 (RV σ) (mA m 0 m.n1) (mA m 0 m.n1) := fun σ h0 h1 h2 h3 h4 => by rw [← hmA]; exact Mg.rv h h0 h1 h2 h3 h4
  have hro9 : ∀ (σ : Nat → Option Nat) (j N : Nat), σ 9 = some j → σ 1 = some 1 → σ 2 = some 2 → σ 3 = some 3 → σ 4 = some 4 → F2 (RV σ) (mA m j N) (mA m 9 N) := fun σ j N h0 h1 h2 h3 h4 =>
    .cons (.closed rfl) (.cons (.closed rfl) (.cons (.slice h0) (.cons (h.f.s.rv h1) (.cons (h.f.x.rv h2) (Mg.rvR h h3 h4)))))
  have hlc : ∀ v ∈ (ls.set k l).flatMap Ln.cells, c2 v = true := lines_c2
  have fin : ∀ (nid N : Nat) (g : List Value), N = m.n1 → g = (ls.set k l).flatMap Ln.cells → sgOK 5 10 [(5, 5), (6, 6), (7, 7), (8, 8), (9, nid)] = true →
      F2 (fun (p q : Nat × AObj) => sg 5 [(5, 5), (6, 6), (7, 7), (8, 8), (9, nid)] q.1 = some p.1 ∧ RO (sg 5 [(5, 5), (6, 6), (7, 7), (8, 8), (9, nid)]) p.2 q.2)
        [(0, .ro cs0), (1, o1), (2, o2), (5, .cells (mA m 0 m.n1) 33), (6, .cells l.cells 37), (7, grD ds), (8, .cells (mA m nid N) 33), (nid, .grow g 37)]
        [(0, .ro cs0), (1, o1), (2, o2), (5, .cells (mA m 0 m.n1) 33), (6, .cells l.cells 37), (7, grD ds), (8, .cells (mA m 9 m.n1) 33), (9, .grow ((ls.set k l).flatMap Ln.cells) 37)] := by
    intro nid N g hN hg _
    subst hN hg
    exact .cons ⟨rfl, .ro (RV.all hcc)⟩ (.cons ⟨rfl, h.f.s.ro⟩ (.cons ⟨rfl, h.f.x.ro⟩ (.cons ⟨rfl, .cells (hro _ rfl rfl rfl rfl rfl)⟩ (.cons ⟨rfl, .cells (RV.all l.cc2)⟩ (.cons ⟨rfl, RO.grD⟩ (.cons ⟨rfl, .cells (hro9 _ nid _ rfl rfl rfl rfl rfl)⟩ (.cons ⟨rfl, .grow (RV.all hlc)⟩ .nil)))))))
  rw [hmA, ho] at hQ ⊢
  have hlen2 : ((ls.set k l).flatMap Ln.cells) = cs0.take (k * 38) ++ l.cells ++ cs0.drop ((k + 1) * 38) := hset
  rcases Nat.eq_zero_or_pos k with hk0 | hk0
  · subst hk0
    rcases Nat.lt_or_ge 1 ls.length with h1 | h1
    · -- B
      refine pieceS hm pCall_sound oo3B_sound 0 (r3B o1 o2 m n 0 m.n1 ds cs0 l) rfl ⟨⟨rfl, by omega, by omega, by omega, rfl, rfl, rfl, by rw [hll]; omega, by rw [hl0]; omega, fun v hv => hcone v (List.mem_of_mem_drop (List.mem_of_mem_take hv))⟩, ⟨Nat.le_refl _, by omega, by omega, by omega, by omega⟩, rfl, trivial, rfl, ⟨Nat.le_refl _, by omega, by omega, by omega, by omega⟩, trivial, trivial⟩ rfl 10 [(5, 5), (6, 6), (7, 7), (8, 8), (9, 12)]
        rfl (fin 12 _ _ (by omega) ?_ rfl) .nil hQ
      rw [hlen2]
      simp only [Nat.zero_mul, List.take_zero, List.nil_append, Nat.zero_add, Nat.one_mul]
      congr 1
      rw [List.take_of_length_le]
      rw [List.length_drop, hl0]
      omega
    · -- A
      have hn1 : m.n1 = 1 := by omega
      rw [hn1] at hQ fin ⊢
      refine pieceS hm pCall_sound oo3A_sound 0 (r3A o1 o2 m n 0 1 ds cs0 l) rfl ⟨rfl, rfl, trivial, rfl, ⟨Nat.le_refl _, by omega, by omega, by omega, by omega⟩, trivial, trivial⟩ rfl 10 [(5, 5), (6, 6), (7, 7), (8, 8), (9, 11)]
        rfl (fin 11 _ _ rfl ?_ rfl) .nil hQ
      rw [hlen2]
      simp only [Nat.zero_mul, List.take_zero, List.nil_append, Nat.zero_add, Nat.one_mul]
      rw [List.drop_eq_nil_of_le (by omega), List.append_nil]
  · have hN : AppN 38 37 80 k 0 cs0 := ⟨rfl, by omega, by omega, by omega, by omega⟩
    have hA2 : ∀ v ∈ cs0.take (k * (37 + 1)), c2 v = true := fun v hv => hcc v (List.mem_of_mem_take hv)
    have hAc : (cs0.take (k * (37 + 1))).take (k * (37 + 1)) ++ l.cells = cs0.take (k * 38) ++ l.cells := by rw [hA1]
    have hAcl : (cs0.take (k * 38) ++ l.cells).length = (k + 1) * 38 := by rw [List.length_append, hAl, hll]; omega
    rcases Nat.lt_or_ge (k + 1) ls.length with h1 | h1
    · -- D
      have hr := r3D o1 o2 m n k m.n1 ds cs0 l
      rw [hw, hAc] at hr
      simp only [Int.toNat_natCast] at hr
      refine pieceS hm pCall_sound oo3D_sound 0 hr rfl ⟨⟨rfl, by omega, by omega, by omega, rfl, rfl, rfl, by rw [hAcl]; omega, by rw [hl0]; omega, fun v hv => hcone v (List.mem_of_mem_drop (List.mem_of_mem_take hv))⟩, ⟨Nat.le_refl _, by omega, by omega, by omega, by omega⟩, trivial, hap1, trivial, ⟨hN, hA2⟩, ⟨Nat.le_refl _, by omega, by omega, by omega, by omega⟩, trivial, trivial⟩ rfl 10 [(5, 5), (6, 6), (7, 7), (8, 8), (9, 13)]
        rfl (fin 13 _ _ (by omega) ?_ rfl) .nil hQ
      rw [hlen2, List.take_of_length_le (by rw [hAcl]; omega), Nat.zero_add, List.take_of_length_le (l := cs0.drop _)]
      rw [List.length_drop, hl0]
      omega
    · -- C
      have hr := r3C o1 o2 m n k m.n1 ds cs0 l
      rw [hw, hAc] at hr
      refine pieceS hm pCall_sound oo3C_sound 0 hr rfl ⟨by omega, rfl, hap1, trivial, ⟨hN, hA2⟩, ⟨Nat.le_refl _, by omega, by omega, by omega, by omega⟩, trivial, trivial⟩ rfl 10 [(5, 5), (6, 6), (7, 7), (8, 8), (9, 12)]
        rfl (fin 12 _ _ (by omega) ?_ rfl) .nil hQ
      rw [hlen2, List.drop_eq_nil_of_le (by omega), List.append_nil]
end Go.Abs

namespace Go.Abs
open Go.Proofs
set_option maxRecDepth 100000

abbrev TL (n n2 k : Nat) (i : Nat) : List Value := mkT 110 [(7, sl 7 n), (8, i64 (k : Int)), (9, pt 8), (10, sl 10 n2), (11, i64 (i : Int))] jX
abbrev HL (o0 o1 o2 : AObj) (mc cs1 d1 d2 : List Value) : Heap := mkH 11 [(0, o0), (1, o1), (2, o2), (7, .grow d1 26), (8, .cells mc 33), (9, .grow cs1 37), (10, .grow d2 26)] []

def R11C (m : Mf) (ls : List Ln) (ss : List Sr) (xs : List Ct) (N : Nat) (dd : List Value) (H : Heap) (v : Value) : Prop := 0 < ls.length ∧ N = (leaves m ls ss xs).length ∧ dd = flatD (leaves m ls ss xs) ∧ LvC m ls ss xs H v
def lvD (m : Mf) (ls : List Ln) (ss : List Sr) (xs : List Ct) (N : Nat) (dd : List Value) : List Value → Heap → Option CallR := fun args H => match args with
  | [v] => some (.eff (sl H.next N) (H.push (.grow dd 26)) (R11C m ls ss xs N dd H v))
  | _ => none
theorem lvD_sound (m : Mf) (ls : List Ln) (ss : List Sr) (xs : List Ct) (N : Nat) (dd : List Value) : SoundC Tryz.prog (oneC 11 (lvD m ls ss xs N dd)) := oneC_sound fun args H r h => by
  unfold lvD at h
  split at h
  case h_2 => cases h
  cases h
  rintro ⟨h0, h1, h2, h3⟩
  subst h1 h2
  exact (lv11 m ls ss xs h0).eff 11 _ H _ _ _ (by simp only [oneC, Nat.beq_refl, cond_true, lvG]; rfl) h3

noncomputable def ooN (f : Nat → Int) : OpO := orO (forceO Tryz.prog 79 (.bool true)) (orO (idxO Tryz.prog 83) (orO (ldO Tryz.prog 84 (dig (dgf f))) (orO (idxO Tryz.prog 87) (orO (ldO Tryz.prog 88 (dig (dgf f))) (orO (neqO 89) (forceO Tryz.prog 95 (.bool false)))))))
theorem ooN_sound (f : Nat → Int) : SoundO Tryz.prog (ooN f) := orO_sound forceO_sound (orO_sound idxO_sound (orO_sound ldO_sound (orO_sound idxO_sound (orO_sound ldO_sound (orO_sound neqO_sound forceO_sound)))))
noncomputable def ooE (m : Mf) (ls : List Ln) (ss : List Sr) (xs : List Ct) (N : Nat) (dd : List Value) (f : Nat → Int) : OpO := orO (forceO Tryz.prog 79 (.bool false)) (orO (forceO Tryz.prog 95 (.bool true)) (orO (idxO Tryz.prog 99) (orO (ldO Tryz.prog 100 (dig (dgf f))) (orO (callO Tryz.prog (oneC 11 (lvD m ls ss xs N dd))) (orO (idxO Tryz.prog 104) (orO (ldO Tryz.prog 105 (dig (dgf f))) (neqO 106)))))))
theorem ooE_sound (m : Mf) (ls : List Ln) (ss : List Sr) (xs : List Ct) (N : Nat) (dd : List Value) (f : Nat → Int) : SoundO Tryz.prog (ooE m ls ss xs N dd f) := orO_sound forceO_sound (orO_sound forceO_sound (orO_sound idxO_sound (orO_sound ldO_sound (orO_sound (callO_sound (lvD_sound m ls ss xs N dd)) (orO_sound idxO_sound (orO_sound ldO_sound neqO_sound))))))

abbrev dA (f : Nat → Int) : Array Value := (bytes (dgf f)).toArray
theorem r3N (o0 o1 o2 : AObj) (mc cs1 d1 d2 : List Value) (n n2 k i : Nat) (f : Nat → Int) (b : Value) : (ex3 Tryz.prog pCall (ooN f) 60 (codeOf Tryz.f3 [1,1,1,1,1,1,1,1,1,1,0,1,0,0,1]) ⟨⟨mkT 110 [(7, sl 7 n), (8, i64 (k : Int)), (9, pt 8), (10, sl 10 n2), (11, i64 (i : Int)), (73, b)] jX, HL o0 o1 o2 mc cs1 d1 d2, []⟩, True⟩).map (obs3 [7,8,9,10,11] [0,1,2,7,8,9,10])
  = some (⟨0, [sl 7 n, i64 (k : Int), pt 8, sl 10 n2, i64 (IntKind.i64.wrap ((i : Int) + 1))], 110, 11, [o0, o1, o2, .grow d1 26, .cells mc 33, .grow cs1 37, .grow d2 26], []⟩,
    some (Value.bool ((i : Int) == IntKind.i64.wrap (1 + (k : Int)))) = some (Value.bool false) ∧ NeqC (dA f) (dA f) ∧ LdC Tryz.prog 26 (some d2) (0 + i * 32) (dig (dgf f)) ∧ ((0 : Int) ≤ (i : Int) ∧ (i : Int) < (n2 : Int)) ∧
    LdC Tryz.prog 26 (some d1) (0 + i * 32) (dig (dgf f)) ∧ ((0 : Int) ≤ (i : Int) ∧ (i : Int) < (n : Int)) ∧ some (Value.bool ((i : Int) != IntKind.i64.wrap (1 + (k : Int)))) = some (Value.bool true) ∧ True) := by kernel_rfl
theorem r3E (o0 o1 o2 : AObj) (mm : Mf) (m : Mg) (ls : List Ln) (ss : List Sr) (xs : List Ct) (cs1 d1 d2 : List Value) (n n2 k i n1 : Nat) (f : Nat → Int) (b : Value) : (ex3 Tryz.prog pCall (ooE mm ls ss xs n2 d2 f) 60 (codeOf Tryz.f3 [1,1,1,1,1,1,1,1,1,1,0,1,0,0,1]) ⟨⟨mkT 110 [(7, sl 7 n), (8, i64 (k : Int)), (9, pt 8), (10, sl 10 n2), (11, i64 (i : Int)), (73, b)] jX, HL o0 o1 o2 (mA m 9 n1) cs1 d1 d2, []⟩, True⟩).map (obs3 [7,8,9,10,11] [0,1,2,7,8,9,10])
  = some (⟨0, [sl 7 n, i64 (k : Int), pt 8, sl 10 n2, i64 (IntKind.i64.wrap ((i : Int) + 1))], 110, 12, [o0, o1, o2, .grow d1 26, .cells (mA m 9 n1) 33, .grow cs1 37, .grow d2 26], []⟩,
    NeqC (dA f) (dA f) ∧ LdC Tryz.prog 26 (some d2) (0 + i * 32) (dig (dgf f)) ∧ ((0 : Int) ≤ (i : Int) ∧ (i : Int) < (n2 : Int)) ∧ R11C mm ls ss xs n2 d2 (HL o0 o1 o2 (mA m 9 n1) cs1 d1 d2) (.agg (mA m 9 n1).toArray) ∧ LdC Tryz.prog 26 (some d2) (0 + i * 32) (dig (dgf f)) ∧
    LdC Tryz.prog 26 (some d2) (0 + i * 32) (dig (dgf f)) ∧ ((0 : Int) ≤ (i : Int) ∧ (i : Int) < (n2 : Int)) ∧ some (Value.bool ((i : Int) == IntKind.i64.wrap (1 + (k : Int)))) = some (Value.bool true) ∧ some (Value.bool ((i : Int) != IntKind.i64.wrap (1 + (k : Int)))) = some (Value.bool false) ∧ True) := by kernel_rfl
theorem r3H (n n2 k i : Nat) (H : Heap) : (ex3 Tryz.prog pCall noOO 60 (pre 0 (codeOf Tryz.f3 [1,1,1,1,1,1,1,1,1,1,0,1,0,0,0])) ⟨⟨TL n n2 k i, H, []⟩, True⟩).map (obsQ [7,8,9,10,11,73])
  = some (⟨0, [sl 7 n, i64 (k : Int), pt 8, sl 10 n2, i64 (i : Int), .bool (decide ((i : Int) < (n : Int)))], 110, H, []⟩, True) := by kernel_rfl
theorem r3Z (v : Value) (n n2 k i : Nat) (b : Value) (H : Heap) : (ex3 Tryz.prog pCall (callO Tryz.prog (oneC 9 awG)) 60 (codeOf Tryz.f3 [1,1,1,1,1,1,1,1,1,1,1]) ⟨⟨mkT 110 [(7, sl 7 n), (8, i64 (k : Int)), (9, pt 8), (10, sl 10 n2), (11, i64 (i : Int)), (73, b)] jX, H, []⟩, True⟩).map (fun r => (r.1.tag, resA Tryz.prog Tryz.f3 r.2.T r.2.H, r.2.H, r.2.D, r.2.L))
  = some (1, some (.bool true), H, [], True ∧ True) := by kernel_rfl
theorem r3i (o0 o1 o2 : AObj) (mm : Mf) (m : Mg) (ls : List Ln) (ss : List Sr) (xs : List Ct) (mc cs1 : List Value) (ds : List (List Int)) (n k n1 : Nat) (l : Ln) : (ex3 Tryz.prog pCall (callO Tryz.prog (oneC 10 (lvG mm ls ss xs))) 60 (pre 0 (codeOf Tryz.f3 [1,1,1,1,1,1,1,1])) ⟨⟨TC n k, HD o0 o1 o2 mc (mA m 9 n1) l ds cs1, []⟩, True⟩).map (obs3 [7,8,9,10] [0,1,2,7,8,9,10])
  = some (⟨0, [sl 7 n, i64 (k : Int), pt 8, sl 10 (leaves mm ls ss xs).length], 110, 11, [o0, o1, o2, grD ds, .cells (mA m 9 n1) 33, .grow cs1 37, grD (leaves mm ls ss xs)], []⟩, LvC mm ls ss xs (HD o0 o1 o2 mc (mA m 9 n1) l ds cs1) (.agg (mA m 9 n1).toArray) ∧ True) := by kernel_rfl
theorem r3j (n n2 k : Nat) (H : Heap) : (ex3 Tryz.prog pCall noOO 60 (pre 0 (codeOf Tryz.f3 [1,1,1,1,1,1,1,1,1,0])) ⟨⟨mkT 110 [(7, sl 7 n), (8, i64 (k : Int)), (9, pt 8), (10, sl 10 n2)] jX, H, []⟩, True⟩).map (obsQ [7,8,9,10,69])
  = some (⟨0, [sl 7 n, i64 (k : Int), pt 8, sl 10 n2, .bool ((n : Int) != (n2 : Int))], 110, H, []⟩, True) := by kernel_rfl
theorem r3k (n n2 k : Nat) (b : Value) (H : Heap) : (ex3 Tryz.prog pCall noOO 60 (pre 0 (codeOf Tryz.f3 [1,1,1,1,1,1,1,1,1,1,0])) ⟨⟨mkT 110 [(7, sl 7 n), (8, i64 (k : Int)), (9, pt 8), (10, sl 10 n2), (69, b)] jX, H, []⟩, True⟩).map (obsQ [7,8,9,10,11])
  = some (⟨0, [sl 7 n, i64 (k : Int), pt 8, sl 10 n2, i64 ((0 : Nat) : Int)], 110, H, []⟩, True) := by kernel_rfl

/-- The manifest with the other line. -/
def Mg.with9 (m : Mg) : Mf := { m.toMf with a1 := some ⟨9, 0, none⟩, c1 := capG }
theorem leaves_with9 (m : Mg) (ls : List Ln) (ss : List Sr) (xs : List Ct) : leaves m.with9 ls ss xs = leaves m.toMf ls ss xs := rfl
theorem leaves_len (m : Mf) (ls : List Ln) (ss : List Sr) (xs : List Ct) : (leaves m ls ss xs).length = 1 + ls.length + ss.length + xs.length := by simp [leaves]; omega
theorem leaves_set (m : Mf) (ls : List Ln) (ss : List Sr) (xs : List Ct) (k : Nat) (l : Ln) (i : Nat) (h : i ≠ k + 1) : (leaves m (ls.set k l) ss xs)[i]? = (leaves m ls ss xs)[i]? := by
  simp only [leaves, List.append_assoc, List.map_set]
  cases i with
  | zero => rfl
  | succ i =>
    simp only [List.singleton_append, List.getElem?_cons_succ]
    by_cases hi : i < ls.length
    · simp only [List.getElem?_append, List.length_set, List.length_map, hi, if_true]
      rw [List.getElem?_set_ne (by omega)]
    · simp only [List.getElem?_append, List.length_set, List.length_map, hi, if_false]

theorem flatD_at {ds : List (List Int)} (h : ∀ d ∈ ds, d.length = 32) {i : Nat} {d : List Int} (hd : ds[i]? = some d) : LdC Tryz.prog 26 (some (flatD ds)) (0 + i * 32) (dig d) := by
  have h2 : ∀ (l : List (List Int)), (∀ x ∈ l, x.length = 32) → ∀ (i : Nat) x, l[i]? = some x → ((flatD l).drop (i * 32)).take 32 = bytes x ∧ i * 32 + 32 ≤ (flatD l).length := fun l hl i x hx => flat_part bytes 32 l (fun y hy => by rw [bytes_len]; exact hl y hy) i x hx
  obtain ⟨h3, h4⟩ := h2 ds h i d hd
  rw [Nat.zero_add]
  exact ldC_agg agg26 siz26 h4 h3
theorem neq_ok (f : Nat → Int) : NeqC (dA f) (dA f) := ⟨rfl, by simp [bytes_len, dgf_len], by simpa using bytes_u8⟩

theorem wrap_1k {k : Nat} (h : k ≤ 1000000000) : IntKind.i64.wrap (1 + (k : Int)) = ((k + 1 : Nat) : Int) := by
  rw [Int.add_comm]; exact wrap_i1 h

theorem Mg.slh {m : Mg} {o0 o1 o2 : AObj} {ls : List Ln} {ss : List Sr} {xs : List Ct} (h : m.ok o0 o1 o2 ls ss xs) {H : Heap} (g0 : H.get 0 = o0) (g1 : H.get 1 = o1) (g2 : H.get 2 = o2) :
    SLH H m.a1 m.n1 m.c1 ls.length (ls.flatMap Ln.cells) ∧ SLH H m.a2 m.n2 m.c2 ss.length (ss.flatMap Sr.cells) ∧ SLH H m.a3 m.n3 m.c3 xs.length (xs.flatMap Ct.cells) := by
  have key : ∀ {j : Nat} {a : Option Addr} {n c : Nat} {o : AObj} {k : Nat} {cs : List Value}, SL j a n c o k cs → H.get j = o → SLH H a n c k cs := by
    intro j a n c o k cs hs hg
    rcases hs with ⟨h1, h2, h3, _, h5⟩ | ⟨h1, h2, h3, h4, h5⟩
    · exact .inl ⟨h1, h2, h3, h5⟩
    · refine .inr ⟨j, 0, cs, h1, h4, ?_, by rw [List.drop_zero, List.take_length], by omega, h5⟩
      unfold Heap.row
      rw [hg, h3]
  exact ⟨key h.f.l g0, key h.f.s g1, key h.f.x g2⟩

theorem lawEnd (h9 : ∀ H, Does Tryz.prog 9 [] H (.bool true) H) {o0 o1 o2 : AObj} {m : Mg} {ls : List Ln} {ss : List Sr} {xs : List Ct} (h : m.ok o0 o1 o2 ls ss xs) (l : Ln) (k : Nat) (hk : k < ls.length) (hb : ls.length ≤ 20) (hb2 : ss.length ≤ 20) (hb3 : xs.length ≤ 20) (mc : List Value) :
    Awn Tryz.prog 5 (codeOf Tryz.f3 [1,1,1,1,1,1,1,1]) (EndT ⟨5, [(0, o0), (1, o1), (2, o2)]⟩) (TC (leaves m.toMf ls ss xs).length k) (HD o0 o1 o2 mc (mA m 9 m.n1) l (leaves m.toMf ls ss xs) ((ls.set k l).flatMap Ln.cells)) [] := by
  have hn := h.f.l.n
  have hrow9 : ∀ (H : Heap), H.get 9 = .grow ((ls.set k l).flatMap Ln.cells) 37 → H.get 0 = o0 → H.get 1 = o1 → H.get 2 = o2 → LvC m.with9 (ls.set k l) ss xs H (.agg (mA m 9 m.n1).toArray) := by
    intro H g9 g0 g1 g2
    obtain ⟨_, hs2, hs3⟩ := Mg.slh h g0 g1 g2
    refine ⟨⟨m.rest, m.rest_len, rfl⟩, .inr ⟨9, 0, (ls.set k l).flatMap Ln.cells, rfl, ?_, ?_, by rw [List.drop_zero, List.take_length], by omega, lines_c2⟩, hs2, hs3, by simp; omega, by omega, by omega⟩
    · show m.n1 = _
      rw [hn]; simp
    · unfold Heap.row; rw [g9]
  have hls2 := leaves_len m.toMf (ls.set k l) ss xs
  have hls1 := leaves_len m.toMf ls ss xs
  simp only [List.length_set] at hls2
  have hmrv : ∀ (σ : Nat → Option Nat), σ 9 = some 9 → σ 1 = some 1 → σ 2 = some 2 → σ 3 = some 3 → σ 4 = some 4 → F2 (RV σ) (mA m 9 m.n1) (mA m 9 m.n1) := fun σ h0 h1 h2 h3 h4 =>
    .cons (.closed rfl) (.cons (.closed rfl) (.cons (.slice h0) (.cons (h.f.s.rv h1) (.cons (h.f.x.rv h2) (Mg.rvR h h3 h4)))))
  have hobs : ∀ s, sg 5 s 7 = some 7 → sg 5 s 8 = some 8 → sg 5 s 9 = some 9 → sg 5 s 10 = some 10 → F2 (fun (p q : Nat × AObj) => sg 5 s q.1 = some p.1 ∧ RO (sg 5 s) p.2 q.2)
      [(0, o0), (1, o1), (2, o2), (7, grD (leaves m.toMf ls ss xs)), (8, .cells (mA m 9 m.n1) 33), (9, .grow ((ls.set k l).flatMap Ln.cells) 37), (10, grD (leaves m.toMf (ls.set k l) ss xs))]
      [(0, o0), (1, o1), (2, o2), (7, grD (leaves m.toMf ls ss xs)), (8, .cells (mA m 9 m.n1) 33), (9, .grow ((ls.set k l).flatMap Ln.cells) 37), (10, grD (leaves m.toMf (ls.set k l) ss xs))] := fun s e7 e8 e9 e10 =>
    .cons ⟨rfl, h.f.l.ro⟩ (.cons ⟨rfl, h.f.s.ro⟩ (.cons ⟨rfl, h.f.x.ro⟩ (.cons ⟨e7, RO.grD⟩ (.cons ⟨e8, .cells (hmrv _ e9 rfl rfl rfl rfl)⟩ (.cons ⟨e9, .grow (RV.all lines_c2)⟩ (.cons ⟨e10, RO.grD⟩ .nil))))))
  refine pieceS hm pCall_sound (callO_sound (lv10 m.with9 (ls.set k l) ss xs)) 0 (r3i o0 o1 o2 m.with9 m (ls.set k l) ss xs mc _ _ _ k m.n1 l) rfl ⟨hrow9 _ rfl rfl rfl rfl, trivial⟩ rfl 11 [(7, 7), (8, 8), (9, 9), (10, 10)] rfl (hobs _ rfl rfl rfl rfl) .nil ?_
  refine awn_seq (x := codeOf Tryz.f3 [1,1,1,1,1,1,1,1,1,0]) (y := codeOf Tryz.f3 [1,1,1,1,1,1,1,1,1,1]) ?_
  refine pieceT hm pCall_sound noOO_sound 0 (r3j _ _ k _) rfl trivial rfl ?_
  refine awn_cond (c := .tmp 69) (b := ((leaves m.toMf ls ss xs).length : Int) != ((leaves m.with9 (ls.set k l) ss xs).length : Int)) rfl rfl ?_
  rw [leaves_with9, hls1, hls2]
  rw [show (((1 + ls.length + ss.length + xs.length : Nat) : Int) != ((1 + ls.length + ss.length + xs.length : Nat) : Int)) = false by simp]
  refine awn_skip ?_
  refine awn_seq (x := codeOf Tryz.f3 [1,1,1,1,1,1,1,1,1,1,0]) (y := codeOf Tryz.f3 [1,1,1,1,1,1,1,1,1,1,1]) ?_
  refine pieceT hm pCall_sound noOO_sound 0 (r3k _ _ k _ _) rfl trivial rfl ?_
  generalize hN : 1 + ls.length + ss.length + xs.length = N at *
  refine awn_block (c := codeOf Tryz.f3 [1,1,1,1,1,1,1,1,1,1,0,1,0]) (awn_loop (c := codeOf Tryz.f3 [1,1,1,1,1,1,1,1,1,1,0,1,0,0])
    (fun q T H D => ∃ i, i + q = N ∧ T = TL N N k i ∧ H = HL o0 o1 o2 (mA m 9 m.n1) ((ls.set k l).flatMap Ln.cells) (flatD (leaves m.toMf ls ss xs)) (flatD (leaves m.toMf (ls.set k l) ss xs)) ∧ D = [])
    N ⟨_, _, _, .refl _ _ _ _ _, 0, by omega, rfl, rfl, rfl⟩ ?_)
  rintro q T H D ⟨i, hi, rfl, rfl, rfl⟩
  refine awn_seq (x := codeOf Tryz.f3 [1,1,1,1,1,1,1,1,1,1,0,1,0,0,0]) (y := codeOf Tryz.f3 [1,1,1,1,1,1,1,1,1,1,0,1,0,0,1]) ?_
  refine pieceT hm pCall_sound noOO_sound 0 (r3H _ _ k i _) rfl trivial rfl ?_
  refine awn_cond (c := .tmp 73) (b := decide ((i : Int) < (N : Int))) rfl rfl ?_
  cases q with
  | zero =>
    rw [decide_eq_false (by omega)]
    refine awn_exit ?_
    exact pieceZ pCall_sound (callO_sound (awG_sound h9)) (r3Z nilS _ _ k i _ _) ⟨trivial, trivial⟩ (keep5 (by show 5 ≤ 11; omega) rfl rfl rfl rfl rfl)
  | succ q =>
    rw [decide_eq_true (by omega)]
    refine awn_skip ?_
    have hw := wrap_i1 (i := i) (by omega)
    have hwk := wrap_1k (k := k) (by omega)
    by_cases hik : i = k + 1
    · have hd2 : (leaves m.toMf (ls.set k l) ss xs)[i]? = some (leaves m.toMf (ls.set k l) ss xs)[i] := List.getElem?_eq_getElem (by omega)
      have hmem := List.mem_of_getElem? hd2
      generalize (leaves m.toMf (ls.set k l) ss xs)[i] = d at hd2 hmem
      have hdl := leaves_32 d hmem
      have hfd : dgf (fn d) = d := dgf_of hdl
      have hL := flatD_at (fun x hx => leaves_32 x hx) hd2
      rw [← hfd] at hL
      have hr := r3E o0 o1 o2 m.with9 m (ls.set k l) ss xs ((ls.set k l).flatMap Ln.cells) (flatD (leaves m.toMf ls ss xs)) (flatD (leaves m.toMf (ls.set k l) ss xs)) N N k i m.n1 (fn d) (.bool true)
      rw [hw, hwk] at hr
      refine pieceE hm pCall_sound (ooE_sound _ _ _ _ _ _ _) hr ⟨neq_ok _, hL, ⟨by omega, by omega⟩, ⟨by simp; omega, by rw [leaves_with9]; exact hls2.symm, rfl, hrow9 _ rfl rfl rfl rfl⟩, hL, hL, ⟨by omega, by omega⟩, ?_, ?_, trivial⟩ rfl 11 [(7, 7), (8, 8), (9, 9), (10, 10)] rfl (hobs _ rfl rfl rfl rfl) .nil ?_
      · rw [hik]; simp
      · rw [hik]; simp
      · intro T H D hNr
        exact ⟨q, by omega, _, _, _, hNr, i + 1, by omega, rfl, rfl, rfl⟩
    · have hd2 : (leaves m.toMf ls ss xs)[i]? = some (leaves m.toMf ls ss xs)[i] := List.getElem?_eq_getElem (by omega)
      have hmem := List.mem_of_getElem? hd2
      have hd1 := (leaves_set m.toMf ls ss xs k l i hik).trans hd2
      generalize (leaves m.toMf ls ss xs)[i] = d at hd1 hd2 hmem
      have hdl := leaves_32 d hmem
      have hfd : dgf (fn d) = d := dgf_of hdl
      have hL1 := flatD_at (fun x hx => leaves_32 x hx) hd1
      have hL2 := flatD_at (fun x hx => leaves_32 x hx) hd2
      rw [← hfd] at hL1 hL2
      have hr := r3N o0 o1 o2 (mA m 9 m.n1) ((ls.set k l).flatMap Ln.cells) (flatD (leaves m.toMf ls ss xs)) (flatD (leaves m.toMf (ls.set k l) ss xs)) N N k i (fn d) (.bool true)
      rw [hw, hwk] at hr
      have hne : ((i : Int) == ((k + 1 : Nat) : Int)) = false := by simp; omega
      refine pieceE hm pCall_sound (ooN_sound _) hr ⟨by rw [hne], neq_ok _, hL1, ⟨by omega, by omega⟩, hL2, ⟨by omega, by omega⟩, by rw [bne, hne]; rfl, trivial⟩ rfl 11 [(7, 7), (8, 8), (9, 9), (10, 10)] rfl (hobs _ rfl rfl rfl rfl) .nil ?_
      intro T H D hNr
      exact ⟨q, by omega, _, _, _, hNr, i + 1, by omega, rfl, rfl, rfl⟩
end Go.Abs

namespace Go.Abs
open Go.Proofs
set_option maxRecDepth 100000

/-- The same, and it returns. -/
theorem pieceZ' {call : CallF} (hO : ∀ f args H v h, call f args H = some (v, h) → Does Tryz.prog f args H v (h.getD H)) {OO : OpO} (hOO : SoundO Tryz.prog OO) {n m : Nat} {c : Code} {T : List Value} {H H0 : Heap} {L : Prop} (h : (ex3 Tryz.prog call OO m c ⟨⟨T, H, []⟩, True⟩).map (fun r => (r.1.tag, resA Tryz.prog Tryz.f3 r.2.T r.2.H, r.2.H, r.2.D, r.2.L)) = some (1, some (.bool true), H, [], L)) (hL : L) (hk : Keep H0 H) :
    Awn Tryz.prog n c (fun e T H D => e = .ret ∧ EndT H0 e T H D) T H [] := by
  cases hr : ex3 Tryz.prog call OO m c ⟨⟨T, H, []⟩, True⟩ with
  | none => rw [hr] at h; cases h
  | some r =>
    rw [hr] at h
    simp only [Option.map_some, Option.some.injEq, Prod.mk.injEq] at h
    obtain ⟨h1, h2, h3, h4, h5⟩ := h
    refine awn_of (awp_mono (ex3_sound hm hO hOO m c _ r hr (h5 ▸ hL)).2 ?_)
    rintro e T H D ⟨rfl, rfl, rfl, rfl⟩
    have := tag1 h1
    refine ⟨by rw [this]; rfl, .inr (by rw [this]; rfl), ?_, _, h2, rfl, ?_⟩
    · show (List.all r.2.D _) = true
      rw [h4]; rfl
    · show Keep H0 r.2.H
      rw [h3]; exact hk

theorem u64_id {n : Nat} (h : n ≤ 1000000) : IntKind.u64.wrap (n : Int) = (n : Int) := by
  simp only [IntKind.wrap, IntKind.bits, IntKind.signed, Bool.false_and, Bool.false_eq_true, if_false]
  omega
theorem i64_id {n : Int} (h0 : 0 ≤ n) (h : n ≤ 1000000) : IntKind.i64.wrap n = n := by
  simp [IntKind.wrap, IntKind.bits, IntKind.signed]
  omega

theorem does3 (h9 : ∀ H, Does Tryz.prog 9 [] H (.bool true) H) {o0 o1 o2 : AObj} {m : Mg} {ls : List Ln} {ss : List Sr} {xs : List Ct} (hl : SL 0 m.a1 m.n1 m.c1 o0 ls.length (ls.flatMap Ln.cells)) (hs : SL 1 m.a2 m.n2 m.c2 o1 ss.length (ss.flatMap Sr.cells)) (hx : SL 2 m.a3 m.n3 m.c3 o2 xs.length (xs.flatMap Ct.cells)) (hp : SN 3 m.a4 m.n4 m.c4) (hq : SN 4 m.a5 m.n5 m.c5) (at_ : Int) (l : Ln) :
    Does Tryz.prog 3 [.agg m.all.toArray, i64 at_, .agg l.cells.toArray] ⟨5, [(0, o0), (1, o1), (2, o2)]⟩ (.bool true) ⟨5, [(0, o0), (1, o1), (2, o2)]⟩ := by
  refine val_of_awp Tryz.func3 (c := codeOf Tryz.f3 []) rfl rfl (awp_of_awn (n := 5) ?_ (Nat.le_refl _))
  have hn1 := hl.n
  have hn2 := hs.n
  have hn3 := hx.n
  have hrv : ∀ (σ : Nat → Option Nat), σ 0 = some 0 → σ 1 = some 1 → σ 2 = some 2 → σ 3 = some 3 → σ 4 = some 4 → F2 (RV σ) m.all m.all := fun σ h0 h1 h2 h3 h4 =>
    .cons (.closed rfl) (.cons (.closed rfl) (.cons (hl.rv h0) (.cons (hs.rv h1) (.cons (hx.rv h2) (F2.append2 (RV.all bytes_c2) (.cons (.closed rfl) (.cons (hp.rv (j := 3) h3) (.cons (.closed rfl) (.cons (.closed rfl) (.cons (hq.rv (j := 4) h4) .nil)))))))))) 
  have hobA : ∀ s, sg 5 s 5 = some 5 → sg 5 s 6 = some 6 → F2 (fun (p q : Nat × AObj) => sg 5 s q.1 = some p.1 ∧ RO (sg 5 s) p.2 q.2) [(0, o0), (1, o1), (2, o2), (5, .cells m.all 33), (6, .cells l.cells 37)] [(0, o0), (1, o1), (2, o2), (5, .cells m.all 33), (6, .cells l.cells 37)] := fun s e5 e6 =>
    .cons ⟨rfl, hl.ro⟩ (.cons ⟨rfl, hs.ro⟩ (.cons ⟨rfl, hx.ro⟩ (.cons ⟨e5, .cells (hrv _ rfl rfl rfl rfl rfl)⟩ (.cons ⟨e6, .cells (RV.all l.cc2)⟩ .nil))))
  refine pieceS hm pCall_sound noOO_sound 0 (r3a o0 o1 o2 m at_ l) rfl trivial rfl 7 [(5, 5), (6, 6)] rfl (hobA _ rfl rfl) .nil ?_
  refine awn_seq (x := codeOf Tryz.f3 [1,0]) (y := codeOf Tryz.f3 [1,1]) ?_
  have awk : ∀ (b : Value), Awn Tryz.prog 5 (codeOf Tryz.f3 [1,0,1,0]) (thenA (Awn Tryz.prog 5 (codeOf Tryz.f3 [1,1]) (EndT ⟨5, [(0, o0), (1, o1), (2, o2)]⟩)) (EndT ⟨5, [(0, o0), (1, o1), (2, o2)]⟩)) (mkT 110 [(1, i64 at_), (3, pt 5), (5, pt 6), (14, b)] jX) (HA o0 o1 o2 m l) [] := fun b =>
    awn_mono (Q := fun e T H D => e = .ret ∧ EndT ⟨5, [(0, o0), (1, o1), (2, o2)]⟩ e T H D) (pieceZ' pCall_sound (callO_sound (awG_sound h9)) (r3c b nilS at_ _) ⟨trivial, trivial⟩ (keep5 (by show 5 ≤ 7; omega) rfl rfl rfl rfl rfl)) (by rintro e T H D ⟨rfl, h⟩; exact h)
  by_cases h1 : m.n1 ≤ 20
  case neg =>
    refine pieceS hm pCall_sound (oo3a_sound false true true true true) 0 (r3b0 o0 o1 o2 m at_ l) rfl ⟨⟨dcd_of (decide_eq_false h1), trivial⟩, trivial⟩ rfl 7 [(5, 5), (6, 6)] rfl (hobA _ rfl rfl) .nil ?_
    exact awn_cond (c := .tmp 14) (b := true) rfl rfl (awk _)
  by_cases h2 : m.n2 ≤ 20
  case neg =>
    refine pieceS hm pCall_sound (oo3a_sound true false true true true) 0 (r3b1 o0 o1 o2 m at_ l) rfl ⟨⟨dcd_of (decide_eq_false h2), dcd_of (decide_eq_true h1), trivial⟩, trivial⟩ rfl 7 [(5, 5), (6, 6)] rfl (hobA _ rfl rfl) .nil ?_
    exact awn_cond (c := .tmp 14) (b := true) rfl rfl (awk _)
  by_cases h3 : m.n3 ≤ 20
  case neg =>
    refine pieceS hm pCall_sound (oo3a_sound true true false true true) 0 (r3b2 o0 o1 o2 m at_ l) rfl ⟨⟨dcd_of (decide_eq_false h3), dcd_of (decide_eq_true h2), dcd_of (decide_eq_true h1), trivial⟩, trivial⟩ rfl 7 [(5, 5), (6, 6)] rfl (hobA _ rfl rfl) .nil ?_
    exact awn_cond (c := .tmp 14) (b := true) rfl rfl (awk _)
  by_cases h4 : m.n4 ≤ 40
  case neg =>
    refine pieceS hm pCall_sound (oo3a_sound true true true false true) 0 (r3b3 o0 o1 o2 m at_ l) rfl ⟨⟨dcd_of (decide_eq_false h4), dcd_of (decide_eq_true h3), dcd_of (decide_eq_true h2), dcd_of (decide_eq_true h1), trivial⟩, trivial⟩ rfl 7 [(5, 5), (6, 6)] rfl (hobA _ rfl rfl) .nil ?_
    exact awn_cond (c := .tmp 14) (b := true) rfl rfl (awk _)
  by_cases h5 : m.n5 ≤ 20
  case neg =>
    refine pieceS hm pCall_sound (oo3a_sound true true true true false) 0 (r3b4 o0 o1 o2 m at_ l) rfl ⟨⟨dcd_of (decide_eq_false h5), dcd_of (decide_eq_true h4), dcd_of (decide_eq_true h3), dcd_of (decide_eq_true h2), dcd_of (decide_eq_true h1), trivial⟩, trivial⟩ rfl 7 [(5, 5), (6, 6)] rfl (hobA _ rfl rfl) .nil ?_
    exact awn_cond (c := .tmp 14) (b := true) rfl rfl (awk _)
  refine pieceS hm pCall_sound (oo3a_sound true true true true true) 0 (r3b5 o0 o1 o2 m at_ l) rfl ⟨⟨dcd_of (decide_eq_true h5), dcd_of (decide_eq_true h4), dcd_of (decide_eq_true h3), dcd_of (decide_eq_true h2), dcd_of (decide_eq_true h1), trivial⟩, trivial⟩ rfl 7 [(5, 5), (6, 6)] rfl (hobA _ rfl rfl) .nil ?_
  refine awn_cond (c := .tmp 14) (b := false) rfl rfl (awn_skip ?_)
  have h : m.ok o0 o1 o2 ls ss xs := ⟨⟨hl, hs, hx, by omega, by omega, by omega⟩, hp, hq⟩
  have hobB : ∀ s, sg 5 s 5 = some 5 → sg 5 s 6 = some 6 → sg 5 s 7 = some 7 → F2 (fun (p q : Nat × AObj) => sg 5 s q.1 = some p.1 ∧ RO (sg 5 s) p.2 q.2) [(0, o0), (1, o1), (2, o2), (5, .cells m.all 33), (6, .cells l.cells 37), (7, grD (leaves m.toMf ls ss xs))] [(0, o0), (1, o1), (2, o2), (5, .cells m.all 33), (6, .cells l.cells 37), (7, grD (leaves m.toMf ls ss xs))] := fun s e5 e6 e7 =>
    .cons ⟨rfl, h.f.l.ro⟩ (.cons ⟨rfl, h.f.s.ro⟩ (.cons ⟨rfl, h.f.x.ro⟩ (.cons ⟨e5, .cells (hrv _ rfl rfl rfl rfl rfl)⟩ (.cons ⟨e6, .cells (RV.all l.cc2)⟩ (.cons ⟨e7, RO.grD⟩ .nil)))))
  obtain ⟨hs1, hs2, hs3⟩ := Mg.slh h (H := HA o0 o1 o2 m l) rfl rfl rfl
  refine pieceS hm pCall_sound (callO_sound (lv10 m.toMf ls ss xs)) 0 (r3d o0 o1 o2 m ls ss xs _ at_ l) rfl ⟨⟨⟨m.rest, m.rest_len, rfl⟩, hs1, hs2, hs3, by omega, by omega, by omega⟩, trivial⟩ rfl 8 [(5, 5), (6, 6), (7, 7)] rfl (hobB _ rfl rfl rfl) .nil ?_
  refine awn_seq (x := codeOf Tryz.f3 [1,1,1,0]) (y := codeOf Tryz.f3 [1,1,1,1]) ?_
  refine pieceT hm pCall_sound noOO_sound 0 (r3e o0 o1 o2 m _ _ at_ l) rfl trivial rfl ?_
  refine awn_cond (c := .tmp 32) (b := ((leaves m.toMf ls ss xs).length : Int) != IntKind.i64.wrap (IntKind.i64.wrap (IntKind.i64.wrap (1 + (m.n1 : Int)) + (m.n2 : Int)) + (m.n3 : Int))) rfl rfl ?_
  have hls1 := leaves_len m.toMf ls ss xs
  rw [i64_id (n := 1 + (m.n1 : Int)) (by omega) (by omega), i64_id (n := 1 + (m.n1 : Int) + (m.n2 : Int)) (by omega) (by omega), i64_id (n := 1 + (m.n1 : Int) + (m.n2 : Int) + (m.n3 : Int)) (by omega) (by omega)]
  rw [show (((leaves m.toMf ls ss xs).length : Int) != 1 + (m.n1 : Int) + (m.n2 : Int) + (m.n3 : Int)) = false by rw [hls1, hn1, hn2, hn3]; simp]
  refine awn_skip ?_
  refine awn_seq (x := codeOf Tryz.f3 [1,1,1,1,0]) (y := codeOf Tryz.f3 [1,1,1,1,1]) ?_
  refine pieceT hm pCall_sound noOO_sound 0 (r3f o0 o1 o2 m _ _ _ at_ l) rfl trivial rfl ?_
  refine awn_cond (c := .tmp 36) (b := ((m.n1 : Int) == 0)) rfl rfl ?_
  by_cases hz : m.n1 = 0
  · rw [show ((m.n1 : Int) == 0) = true by simp [hz]]
    exact awn_mono (Q := fun e T H D => e = .ret ∧ EndT ⟨5, [(0, o0), (1, o1), (2, o2)]⟩ e T H D) (pieceZ' pCall_sound (callO_sound (awG_sound h9)) (r3g _ _ at_ _) ⟨trivial, trivial⟩ (keep5 (by show 5 ≤ 8; omega) rfl rfl rfl rfl rfl)) (by rintro e T H D ⟨rfl, h⟩; exact h)
  · rw [show ((m.n1 : Int) == 0) = false by simp [hz]]
    refine awn_skip ?_
    have hu := u64_id (n := m.n1) (by omega)
    have hk0 := wrap64 at_
    have ht : (IntKind.u64.wrap at_).tmod (m.n1 : Int) = (IntKind.u64.wrap at_) % (m.n1 : Int) := Int.tmod_eq_emod_of_nonneg hk0.1
    have hlt := Int.emod_lt_of_pos (IntKind.u64.wrap at_) (show (0 : Int) < (m.n1 : Int) by omega)
    have hge := Int.emod_nonneg (IntKind.u64.wrap at_) (show (m.n1 : Int) ≠ 0 by omega)
    have hr := r3h o0 o1 o2 m (leaves m.toMf ls ss xs).length (.bool false) (leaves m.toMf ls ss xs) at_ l
    rw [hu, ht, i64_id hge (by omega)] at hr
    obtain ⟨k, hk⟩ : ∃ k : Nat, (IntKind.u64.wrap at_) % (m.n1 : Int) = (k : Int) := ⟨((IntKind.u64.wrap at_) % (m.n1 : Int)).toNat, by omega⟩
    rw [hk] at hr hlt
    have hkl : k < ls.length := by omega
    refine pieceS hm pCall_sound remO_sound 1 hr rfl ⟨⟨rfl, by omega⟩, trivial⟩ rfl 9 [(5, 5), (6, 6), (7, 7), (8, 8)] (os2 := [(0, o0), (1, o1), (2, o2), (5, .cells m.all 33), (6, .cells l.cells 37), (7, grD (leaves m.toMf ls ss xs)), (8, .cells m.all 33)]) rfl
      (.cons ⟨rfl, h.f.l.ro⟩ (.cons ⟨rfl, h.f.s.ro⟩ (.cons ⟨rfl, h.f.x.ro⟩ (.cons ⟨rfl, .cells (hrv _ rfl rfl rfl rfl rfl)⟩ (.cons ⟨rfl, .cells (RV.all l.cc2)⟩ (.cons ⟨rfl, RO.grD⟩ (.cons ⟨rfl, .cells (hrv _ rfl rfl rfl rfl rfl)⟩ .nil))))))) .nil ?_
    exact lawR10 h l _ _ k hkl (by omega) (lawEnd h9 h l k hkl (by omega) (by omega) (by omega) _)
end Go.Abs

