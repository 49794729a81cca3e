/- For every manifest, seed and index the statements ManifestSigns and ManifestAccepts of law 40 hold, with no condition. -/
import Derived.Test.YtkkocgjpfakfpaaGreatWSg
set_option linter.unusedSimpArgs false
set_option linter.unusedVariables false
namespace Go.Abs
open Go.Proofs
set_option maxRecDepth 1000000

/-- A manifest with all its rows, in whatever heap. -/
structure MgH (M : Mg) (ls : List Ln) (ss : List Sr) (xs : List Ct) (ps ws : List (List Int)) (H : Heap) : Prop where
  l : SLH H M.a1 M.n1 M.c1 ls.length (ls.flatMap Ln.cells)
  s : SLH H M.a2 M.n2 M.c2 ss.length (ss.flatMap Sr.cells)
  x : SLH H M.a3 M.n3 M.c3 xs.length (xs.flatMap Ct.cells)
  p : SLH H M.a4 M.n4 M.c4 ps.length (flatD ps)
  q : SLH H M.a5 M.n5 M.c5 ws.length (flatD ws)
  bl : ls.length ≤ 100000
  bs : ss.length ≤ 100000
  bx : xs.length ≤ 100000
  hp : ∀ d ∈ ps, d.length = 32
  hw : ∀ d ∈ ws, d.length = 32
  hl : ws.length ≤ 100
  few : (leaves M.toMf ls ss xs).length ≤ 63
theorem MgR.mh {m : Mg} {o0 o1 o2 o3 o4 : AObj} {ls : List Ln} {ss : List Sr} {xs : List Ct} {ps ws : List (List Int)} (h : MgR m o0 o1 o2 o3 o4 ls ss xs ps ws) {H : Heap} (g0 : H.get 0 = o0) (g1 : H.get 1 = o1) (g2 : H.get 2 = o2) (g3 : H.get 3 = o3) (g4 : H.get 4 = o4) : MgH m ls ss xs ps ws H :=
  ⟨h.f.l.slh g0, h.f.s.slh g1, h.f.x.slh g2, h.p.slh g3, h.q.slh g4, h.f.bl, h.f.bs, h.f.bx, h.hp, h.hw, h.hl, h.few⟩
theorem mg_imp {M : Mg} {ls : List Ln} {ss : List Sr} {xs : List Ct} {ps ws : List (List Int)} {H : Heap} (h : MgH M ls ss xs ps ws H) (r : List Int) : ∃ (m0 : Mg) (o0 o1 o2 o3 o4 : AObj), MgR m0 o0 o1 o2 o3 o4 ls ss xs ps ws ∧ chkS m0 ls ss xs ps ws r = chkS M ls ss xs ps ws r ∧ Imp Tryz.prog [.agg M.all.toArray, dig r] H [.agg m0.all.toArray, dig r] (h24 o0 o1 o2 o3 o4) := by
  obtain ⟨a1, c1, o0, s0, h1, r1, q1⟩ := slh_sl h.l 0
  obtain ⟨a2, c2, o1, s1, h2, r2, q2⟩ := slh_sl h.s 1
  obtain ⟨a3, c3, o2, s2, h3, r3, q3⟩ := slh_sl h.x 2
  obtain ⟨a4, c4, o3, s3, h4, r4, q4⟩ := slh_sl h.p 3
  obtain ⟨a5, c5, o4, s4, h5, r5, q5⟩ := slh_sl h.q 4
  refine ⟨⟨⟨M.p, M.d, a1, M.n1, c1, a2, M.n2, c2, a3, M.n3, c3⟩, M.rt, M.si, a4, M.n4, c4, M.pi, M.pc, a5, M.n5, c5⟩, o0, o1, o2, o3, o4, ⟨⟨h1, h2, h3, h.bl, h.bs, h.bx⟩, h4, h5, h.hp, h.hw, h.hl, h.few⟩, rfl, ?_⟩
  generalize hS : (fun j => if j = 0 then s0 else if j = 1 then s1 else if j = 2 then s2 else if j = 3 then s3 else if j = 4 then s4 else none : Part) = S
  have e0 : S 0 = s0 := by rw [← hS]; rfl
  have e1 : S 1 = s1 := by rw [← hS]; rfl
  have e2 : S 2 = s2 := by rw [← hS]; rfl
  have e3 : S 3 = s3 := by rw [← hS]; rfl
  have e4 : S 4 = s4 := by rw [← hS]; rfl
  refine imp_gen S ?_ (.cons (RI.agg (.cons (.closed rfl) (.cons (.closed rfl) (.cons (r1 _ e0) (.cons (r2 _ e1) (.cons (r3 _ e2) (F2.appR (RI.all bytes_c2) (.cons (.closed rfl) (.cons (r4 _ e3) (.cons (.closed rfl) (.cons (.closed rfl) (.cons (r5 _ e4) .nil))))))))))))  (.cons (.closed (dig_c2 r)) .nil)) ?_
  · intro j x hj
    rw [← hS] at hj
    apply Classical.byContradiction
    intro hlt
    have : j ≠ 0 ∧ j ≠ 1 ∧ j ≠ 2 ∧ j ≠ 3 ∧ j ≠ 4 := by omega
    simp [this.1, this.2.1, this.2.2.1, this.2.2.2.1, this.2.2.2.2] at hj
  · intro p hp
    simp only [List.mem_cons, List.not_mem_nil, or_false] at hp
    rcases hp with rfl | rfl | rfl | rfl | rfl
    · exact q1 _ e0
    · exact q2 _ e1
    · exact q3 _ e2
    · exact q4 _ e3
    · exact q5 _ e4
/-- Check by contract. -/
structure ChC (M : Mg) (ls : List Ln) (ss : List Sr) (xs : List Ct) (ps ws : List (List Int)) (r : List Int) (bb : Bool) (v v' : Value) (H : Heap) : Prop where
  hv : v = .agg M.all.toArray
  hv' : v' = dig r
  hr : r.length = 32
  h : MgH M ls ss xs ps ws H
  hbb : bb = chkS M ls ss xs ps ws r
def chG (M : Mg) (ls : List Ln) (ss : List Sr) (xs : List Ct) (ps ws : List (List Int)) (r : List Int) (bb : Bool) : List Value → Heap → Option CallR := fun args H => match args with
  | [v, v'] => some (.same (c24 bb) (ChC M ls ss xs ps ws r bb v v' H))
  | _ => none
theorem ch24 (M : Mg) (ls : List Ln) (ss : List Sr) (xs : List Ct) (ps ws : List (List Int)) (r : List Int) (bb : Bool) : SoundC Tryz.prog (oneC 24 (chG M ls ss xs ps ws r bb)) := oneC_sound fun args H q h => by
  unfold chG at h
  split at h
  case h_2 => cases h
  cases h
  rintro ⟨rfl, rfl, h3, h4, rfl⟩
  obtain ⟨m0, o0, o1, o2, o3, o4, g1, g2, g3⟩ := mg_imp h4 r
  rw [← g2]
  exact frame_val (does24 g1 h3) rfl g3
theorem ch25 (M : Mg) (ls : List Ln) (ss : List Sr) (xs : List Ct) (ps ws : List (List Int)) (r : List Int) (bb : Bool) : SoundC Tryz.prog (oneC 25 (chG M ls ss xs ps ws r bb)) := oneC_sound fun args H q h => by
  unfold chG at h
  split at h
  case h_2 => cases h
  cases h
  rintro ⟨rfl, rfl, h3, h4, rfl⟩
  obtain ⟨m0, o0, o1, o2, o3, o4, g1, g2, g3⟩ := mg_imp h4 r
  rw [← g2]
  exact frame_val (does25 g1 h3) rfl g3
end Go.Abs

namespace Go.Abs
open Go.Proofs
set_option maxRecDepth 1000000

/-- Values that are plainly equal to themselves. -/
def selfq (P : Program) : Nat → TypeId → Value → Bool
  | 0, _, _ => false
  | d + 1, t, v => match P.underlying t with
    | some (.int _) => (match v with
      | .int _ _ => true
      | _ => false)
    | some (.struct _) => (match v with
      | .agg xs => !P.stoodInHeld t && (P.fieldsOf t).toList.all (fun f => match partA P f.type xs f.offset with
        | some u => selfq P d f.type u
        | none => false)
      | _ => false)
    | some (.array n e) => (match v with
      | .agg xs => (P.info? e).isSome && (List.range n).all (fun i => match partA P e xs (i * P.cellsOf e) with
        | some u => selfq P d e u
        | none => false)
      | _ => false)
    | _ => false
theorem run_partA {P : Program} {t : TypeId} {cs : Array Value} {off : Nat} {v : Value} (h : partA P t cs off = some v) (w : World) : (Go.part t cs off).run P w = .ok v w := by
  unfold partA at h
  cases ha : isAggT P t with
  | none => simp [ha] at h
  | some b =>
    cases b with
    | true =>
      simp only [ha, Option.map_eq_some_iff] at h
      obtain ⟨n, hn, rfl⟩ := h
      simp [Go.part, run_isAgg ha, run_sizeOf hn]
    | false =>
      simp only [ha] at h
      simp [Go.part, run_isAgg ha, h]
theorem selfq_run {P : Program} (k : Nat) : ∀ (d : Nat) (t : TypeId) (v : Value), selfq P d t v = true → ∀ w, (Op.equalIn (k + d) t v v).run P w = .ok true w
  | 0, _, _, h, _ => by cases h
  | d + 1, t, v, h, w => by
    have ih := selfq_run (P := P) k d
    simp only [selfq] at h
    split at h
    · rename_i q hu
      split at h
      case h_2 => cases h
      rename_i q' n
      have := run_equalIn_int (P := P) w (k + d) t q' q n n hu
      rw [beq_self_eq_true] at this
      exact this
    · rename_i fs hu
      split at h
      case h_2 => cases h
      rename_i xs
      simp only [Bool.and_eq_true, Bool.not_eq_true', List.all_eq_true] at h
      have hf : P.fieldsOf t = fs := by simp [Program.fieldsOf, hu]
      rw [show k + (d + 1) = (k + d) + 1 from rfl, run_equalIn_struct w (k + d) t xs xs (by rw [hf]; exact hu) h.1]
      have h2 := h.2
      generalize (P.fieldsOf t).toList = l at h2
      clear h
      induction l generalizing w with
      | nil => simp [Op.eqFields]
      | cons f l ihl =>
        have hff := h2 f (List.mem_cons_self ..)
        split at hff
        case h_2 => cases hff
        rename_i u hp
        have h1 := run_partA hp w
        have h3 := ih f.type u hff w
        have h4 := ihl w fun g hg => h2 g (List.mem_cons_of_mem _ hg)
        simp only [Op.eqFields]
        split
        · simp only [Sem.run_bind, h1, Result.andThen_ok, h3, Bool.not_true, Bool.false_eq_true, if_false]
          exact h4
        · exact h4
    · rename_i n e hu
      split at h
      case h_2 => cases h
      rename_i xs
      simp only [Bool.and_eq_true, List.all_eq_true] at h
      obtain ⟨i, hi⟩ := Option.isSome_iff_exists.1 h.1
      rw [show k + (d + 1) = (k + d) + 1 from rfl, run_equalIn_array w (k + d) xs xs hu hi]
      have h2 := h.2
      generalize List.range n = l at h2
      clear h
      induction l generalizing w with
      | nil => simp [Op.eqItems]
      | cons j l ihl =>
        have hff := h2 j (List.mem_cons_self ..)
        split at hff
        case h_2 => cases hff
        rename_i u hp
        have h1 := run_partA hp w
        have h3 := ih e u hff w
        have h4 := ihl w fun g hg => h2 g (List.mem_cons_of_mem _ hg)
        simp only [Op.eqItems, Sem.run_bind, h1, Result.andThen_ok, h3, Bool.not_true, Bool.false_eq_true, if_false]
        exact h4
    · cases h
/-- Structs that are equal are not unequal. -/
def NqC (t : TypeId) (vs ws : Array Value) : Prop := vs = ws ∧ c2 (.agg vs) = true ∧ selfq Tryz.prog 6 t (.agg vs) = true ∧ Tryz.prog.eqGuardType Tryz.prog.depth t = false
def neqS (d : Nat) : OpO := fun o ρ _ => match o.dst with
  | some d' => bif Nat.beq d' d then (match o.op with
    | .binOp .neq t x y _ => match ρ x, ρ y with
      | .agg vs, .agg ws => some (.pure (.bool false) (NqC t vs ws))
      | _, _ => none
    | _ => none) else none
  | none => none
theorem neqS_sound {d : Nat} : SoundO Tryz.prog (neqS d) := by
  have key : ∀ o ρ H r, neqS d o ρ H = some r → ∃ v c, r = .pure v c ∧ (c → SPure Tryz.prog o ρ v) := by
    intro o ρ H r h
    unfold neqS at h
    split at h
    case h_2 => cases h
    obtain ⟨_, h⟩ := cond_opt h
    split at h
    case h_2 => cases h
    rename_i t x y yt ho
    split at h
    case h_2 => cases h
    rename_i vs ws hvx hvy
    cases h
    refine ⟨_, _, rfl, fun ⟨h1, h2, h3, h4⟩ H2 => .of_Q fun B E a w hH hr => ?_⟩
    subst h1
    have ex := eq_of_c2 (hvx ▸ hr x (by simp [ho, Op.operands])) h2
    have ey := eq_of_c2 (hvy ▸ hr y (by simp [ho, Op.operands])) h2
    obtain ⟨dst, op, type, pos, after, guard⟩ := o
    simp only at ho
    subst ho
    refine ⟨.bool false, ?_, .bool false⟩
    have hg := run_eqGuard_agg (P := Tryz.prog) w .neq t x y vs vs h4
    have hq := run_neq_struct (P := Tryz.prog) w t vs vs
    have he := selfq_run (P := Tryz.prog) 9994 6 t (.agg vs) h3 w
    rw [show 9994 + 6 = 10000 from rfl] at he
    rw [he] at hq
    simp only [execOp, ex, ey, Sem.run_bind, hg, Result.andThen_ok, hq]
    rfl
  refine ⟨fun o ρ H v ob c h => ?_, fun o ρ H v c h => ?_, fun o ρ H v c h => ?_, fun o ρ H v c h => ?_, fun o ρ H v H' c h => ?_⟩
  · obtain ⟨_, _, h, k⟩ := key _ _ _ _ h; cases h
  · obtain ⟨_, _, h, k⟩ := key _ _ _ _ h; cases h
  · obtain ⟨_, _, h, k⟩ := key _ _ _ _ h; cases h; exact k
  · obtain ⟨_, _, h, k⟩ := key _ _ _ _ h; cases h
  · obtain ⟨_, _, h, k⟩ := key _ _ _ _ h; cases h
theorem selfLn (l : Ln) : selfq Tryz.prog 6 37 (.agg l.cells.toArray) = true := by kernel_rfl
theorem selfSr (l : Sr) : selfq Tryz.prog 6 104 (.agg l.cells.toArray) = true := by kernel_rfl
theorem selfCt (l : Ct) : selfq Tryz.prog 6 106 (.agg l.cells.toArray) = true := by kernel_rfl
theorem guard37 : Tryz.prog.eqGuardType Tryz.prog.depth 37 = false := by kernel_rfl
theorem guard104 : Tryz.prog.eqGuardType Tryz.prog.depth 104 = false := by kernel_rfl
theorem guard106 : Tryz.prog.eqGuardType Tryz.prog.depth 106 = false := by kernel_rfl
end Go.Abs

namespace Go.Abs
open Go.Proofs
set_option maxRecDepth 1000000

theorem c2_of {cs : List Value} (h : cs.all c0 = true) : c2 (.agg cs.toArray) = true := by simp only [c2, c1, List.all_toArray]; exact h
theorem Sr.k2 (x : Sr) : Abs.c2 (.agg x.cells.toArray) = true := c2_of (by kernel_rfl)
theorem Ct.k2 (x : Ct) : Abs.c2 (.agg x.cells.toArray) = true := c2_of (by kernel_rfl)
theorem Ct.l66 (x : Ct) : x.cells.length = 66 := by kernel_rfl

theorem r96a (a a2 : Option Addr) (n c d2 : Nat) (o o2 : AObj) : (ex3 Tryz.prog pCall noOO 60 (pre 0 (codeOf Tryz.f96 [])) ⟨⟨[.slice a n c, .slice a2 n d2] ++ List.replicate 24 undef, ⟨2, [(0, o), (1, o2)]⟩, []⟩, True⟩).map (obsQ [0,1])
  = some (⟨0, [.slice a n c, .slice a2 n d2], 26, ⟨2, [(0, o), (1, o2)]⟩, []⟩, True) := by kernel_rfl
theorem r96b (a a2 : Option Addr) (n c d2 : Nat) (H : Heap) : (ex3 Tryz.prog pCall noOO 60 (pre 0 (codeOf Tryz.f96 [1,0])) ⟨⟨mkT 26 [(0, .slice a n c), (1, .slice a2 n d2)] jX, H, []⟩, True⟩).map (obsQ [0,1,10])
  = some (⟨0, [.slice a n c, .slice a2 n d2, .bool ((n : Int) != (n : Int))], 26, H, []⟩, True) := by kernel_rfl
theorem r96c (a a2 : Option Addr) (n c d2 : Nat) (b : Value) (H : Heap) : (ex3 Tryz.prog pCall noOO 60 (pre 0 (codeOf Tryz.f96 [1,1,0])) ⟨⟨mkT 26 [(0, .slice a n c), (1, .slice a2 n d2), (10, b)] jX, H, []⟩, True⟩).map (obsQ [0,1,5])
  = some (⟨0, [.slice a n c, .slice a2 n d2, i64 ((0 : Nat) : Int)], 26, H, []⟩, True) := by kernel_rfl
theorem r96d (a a2 : Option Addr) (n c d2 : Nat) (i : Int) (H : Heap) : (ex3 Tryz.prog pCall noOO 60 (pre 0 (codeOf Tryz.f96 [1,1,0,1,0,0,0])) ⟨⟨mkT 26 [(0, .slice a n c), (1, .slice a2 n d2), (5, i64 i)] jX, H, []⟩, True⟩).map (obsQ [0,1,5,14])
  = some (⟨0, [.slice a n c, .slice a2 n d2, i64 i, .bool (decide (i < (n : Int)))], 26, H, []⟩, True) := by kernel_rfl
noncomputable def oo96 (x : Sr) : OpO := orO (idxO Tryz.prog 19) (orO (ldO Tryz.prog 20 (.agg x.cells.toArray)) (orO (idxO Tryz.prog 23) (orO (ldO Tryz.prog 24 (.agg x.cells.toArray)) (neqS 25))))
theorem oo96_sound (x : Sr) : SoundO Tryz.prog (oo96 x) := orO_sound idxO_sound (orO_sound ldO_sound (orO_sound idxO_sound (orO_sound ldO_sound neqS_sound)))
theorem r96e (n : Nat) (i : Int) (x : Sr) (b : Value) (cs ds : List Value) : (ex3 Tryz.prog pCall (oo96 x) 60 (codeOf Tryz.f96 [1,1,0,1,0,0,1]) ⟨⟨mkT 26 [(0, sl 0 n), (1, sl 1 n), (5, i64 i), (14, b)] jX, ⟨2, [(0, .ro cs), (1, .ro ds)]⟩, []⟩, True⟩).map (obs3 [0,1,5] [0,1])
  = some (⟨0, [sl 0 n, sl 1 n, i64 (IntKind.i64.wrap (i + 1))], 26, 2, [.ro cs, .ro ds], []⟩,
    NqC 104 x.cells.toArray x.cells.toArray ∧ LdC Tryz.prog 104 (some ds) (0 + i.toNat * 2) (.agg x.cells.toArray) ∧ ((0 : Int) ≤ i ∧ i < (n : Int)) ∧ LdC Tryz.prog 104 (some cs) (0 + i.toNat * 2) (.agg x.cells.toArray) ∧ ((0 : Int) ≤ i ∧ i < (n : Int)) ∧ True) := by kernel_rfl
theorem r96f (a a2 : Option Addr) (n c d2 : Nat) (i : Value) (b : Value) (o o2 : AObj) : (ex3 Tryz.prog pCall noOO 60 (codeOf Tryz.f96 [1,1,1]) ⟨⟨mkT 26 [(0, .slice a n c), (1, .slice a2 n d2), (5, i), (14, b)] jX, ⟨2, [(0, o), (1, o2)]⟩, []⟩, True⟩).map (fin3 Tryz.prog Tryz.f96 [0,1])
  = some (⟨1, some (.bool true), 2, [o, o2], []⟩, True) := by kernel_rfl
theorem does96 {a a2 : Option Addr} {n c d2 : Nat} {o o2 : AObj} {xs : List Sr} (h : SL 0 a n c o xs.length (xs.flatMap Sr.cells)) (h2 : SL 1 a2 n d2 o2 xs.length (xs.flatMap Sr.cells)) (hb : xs.length ≤ 100000) :
    Does Tryz.prog 96 [.slice a n c, .slice a2 n d2] ⟨2, [(0, o), (1, o2)]⟩ (.bool true) ⟨2, [(0, o), (1, o2)]⟩ := by
  refine val_of_awp Tryz.func96 (c := codeOf Tryz.f96 []) rfl rfl (awp_of_awn (n := 2) ?_ (Nat.le_refl _))
  have hn := h.n
  refine pieceT hm pCall_sound noOO_sound 0 (r96a a a2 n c d2 o o2) rfl trivial rfl ?_
  refine awn_seq (x := codeOf Tryz.f96 [1,0]) (y := codeOf Tryz.f96 [1,1]) ?_
  refine pieceT hm pCall_sound noOO_sound 0 (r96b a a2 n c d2 _) rfl trivial rfl ?_
  refine awn_cond (c := .tmp 10) (b := ((n : Int) != (n : Int))) rfl rfl ?_
  rw [show ((n : Int) != (n : Int)) = false by simp]
  refine awn_skip ?_
  refine awn_seq (x := codeOf Tryz.f96 [1,1,0]) (y := codeOf Tryz.f96 [1,1,1]) ?_
  refine pieceT hm pCall_sound noOO_sound 0 (r96c a a2 n c d2 _ _) rfl trivial rfl ?_
  refine awn_block (c := codeOf Tryz.f96 [1,1,0,1,0]) (awn_loop (c := codeOf Tryz.f96 [1,1,0,1,0,0])
    (fun k T H D => ∃ i, i + k = n ∧ T = mkT 26 [(0, .slice a n c), (1, .slice a2 n d2), (5, i64 (i : Int))] jX ∧ H = mkH 2 [(0, o), (1, o2)] [] ∧ D = [])
    n ⟨_, _, _, .refl _ _ _ _ _, 0, by omega, rfl, rfl, rfl⟩ ?_)
  rintro k T H D ⟨i, hk, rfl, rfl, rfl⟩
  refine awn_seq (x := codeOf Tryz.f96 [1,1,0,1,0,0,0]) (y := codeOf Tryz.f96 [1,1,0,1,0,0,1]) ?_
  refine pieceT hm pCall_sound noOO_sound 0 (r96d a a2 n c d2 _ _) rfl trivial rfl ?_
  refine awn_cond (c := .tmp 14) (b := decide ((i : Int) < (n : Int))) rfl rfl ?_
  cases k with
  | zero =>
    rw [decide_eq_false (by omega)]
    refine awn_exit ?_
    refine pieceF hm pCall_sound noOO_sound (r96f a a2 n c d2 _ _ _ _) trivial ?_
    intro e T H he hr hn hg
    cases tag1 he
    exact ⟨.inr rfl, rfl, _, hr, rfl, keep2 (by rw [hn]; exact Nat.le_refl _) (hg (0, _) (.head _)) (hg (1, _) (.tail _ (.head _)))⟩
  | succ k =>
    rw [decide_eq_true (by omega)]
    refine awn_skip ?_
    obtain ⟨rfl, rfl, rfl⟩ := h.pos (by omega)
    obtain ⟨rfl, rfl, rfl⟩ := h2.pos (by omega)
    have hi : xs[i]? = some xs[i] := List.getElem?_eq_getElem (by omega)
    obtain ⟨hp1, hp2⟩ := flat_part Sr.cells 2 xs (fun x _ => rfl) i _ hi
    generalize xs[i]'(by omega) = x at hp1 hp2
    have hr := r96e n (i : Int) x (.bool true) (xs.flatMap Sr.cells) (xs.flatMap Sr.cells)
    have hw := wrap_i1 (i := i) (by omega)
    have hz : 0 + (i : Int).toNat * 2 = i * 2 := by rw [Int.toNat_natCast]; omega
    rw [hw, hz] at hr
    have hL := ldC_agg agg104 siz104 hp2 hp1
    have hc := flat_c2 Sr.cells (fun x => x.cc2) xs
    refine pieceE hm pCall_sound (oo96_sound _) hr ⟨⟨rfl, x.k2, selfSr x, guard104⟩, hL, ⟨by omega, by omega⟩, hL, ⟨by omega, by omega⟩, trivial⟩ rfl 2 [] (os2 := [(0, .ro (xs.flatMap Sr.cells)), (1, .ro (xs.flatMap Sr.cells))]) rfl (.cons ⟨rfl, .ro (RV.all hc)⟩ (.cons ⟨rfl, .ro (RV.all hc)⟩ .nil)) .nil ?_
    intro T H D hN
    exact ⟨k, by omega, _, _, _, hN, i + 1, by omega, rfl, rfl, rfl⟩
structure SmC96 (xs : List Sr) (a : Option Addr) (n c : Nat) (a2 : Option Addr) (n2 d2 : Nat) (H : Heap) : Prop where
  hn : n2 = n
  h : SLH H a n c xs.length (xs.flatMap Sr.cells)
  h2 : SLH H a2 n d2 xs.length (xs.flatMap Sr.cells)
  hb : xs.length ≤ 100000
def sm96 (xs : List Sr) : List Value → Heap → Option CallR := fun args H => match args with
  | [.slice a n c, .slice a2 n2 d2] => some (.same (.bool true) (SmC96 xs a n c a2 n2 d2 H))
  | _ => none
theorem sm96_sound (xs : List Sr) : SoundC Tryz.prog (oneC 96 (sm96 xs)) := oneC_sound fun args H q h => by
  unfold sm96 at h
  split at h
  case h_2 => cases h
  rename_i a n c a2 n2 d2
  cases h
  rintro ⟨rfl, h, h2, hb⟩
  obtain ⟨a0, c0, o, s1, g1, g2, g3⟩ := slh_sl h 0
  obtain ⟨a20, c20, o2, s2, k1, k2, k3⟩ := slh_sl h2 1
  generalize hS : (fun j => if j = 0 then s1 else if j = 1 then s2 else none : Part) = S
  have e0 : S 0 = s1 := by rw [← hS]; rfl
  have e1 : S 1 = s2 := by rw [← hS]; rfl
  refine frame_val (does96 g1 k1 hb) rfl (imp_gen S ?_ (.cons (g2 _ e0) (.cons (k2 _ e1) .nil)) ?_)
  · intro j x hj
    rw [← hS] at hj
    by_cases h0 : j = 0
    · omega
    · by_cases h1 : j = 1
      · omega
      · simp [h0, h1] at hj
  · intro p hp
    simp only [List.mem_cons, List.not_mem_nil, or_false] at hp
    rcases hp with rfl | rfl
    · exact g3 _ e0
    · exact k3 _ e1

theorem r55a (a a2 : Option Addr) (n c d2 : Nat) (o o2 : AObj) : (ex3 Tryz.prog pCall noOO 60 (pre 0 (codeOf Tryz.f55 [])) ⟨⟨[.slice a n c, .slice a2 n d2] ++ List.replicate 24 undef, ⟨2, [(0, o), (1, o2)]⟩, []⟩, True⟩).map (obsQ [0,1])
  = some (⟨0, [.slice a n c, .slice a2 n d2], 26, ⟨2, [(0, o), (1, o2)]⟩, []⟩, True) := by kernel_rfl
theorem r55b (a a2 : Option Addr) (n c d2 : Nat) (H : Heap) : (ex3 Tryz.prog pCall noOO 60 (pre 0 (codeOf Tryz.f55 [1,0])) ⟨⟨mkT 26 [(0, .slice a n c), (1, .slice a2 n d2)] jX, H, []⟩, True⟩).map (obsQ [0,1,10])
  = some (⟨0, [.slice a n c, .slice a2 n d2, .bool ((n : Int) != (n : Int))], 26, H, []⟩, True) := by kernel_rfl
theorem r55c (a a2 : Option Addr) (n c d2 : Nat) (b : Value) (H : Heap) : (ex3 Tryz.prog pCall noOO 60 (pre 0 (codeOf Tryz.f55 [1,1,0])) ⟨⟨mkT 26 [(0, .slice a n c), (1, .slice a2 n d2), (10, b)] jX, H, []⟩, True⟩).map (obsQ [0,1,5])
  = some (⟨0, [.slice a n c, .slice a2 n d2, i64 ((0 : Nat) : Int)], 26, H, []⟩, True) := by kernel_rfl
theorem r55d (a a2 : Option Addr) (n c d2 : Nat) (i : Int) (H : Heap) : (ex3 Tryz.prog pCall noOO 60 (pre 0 (codeOf Tryz.f55 [1,1,0,1,0,0,0])) ⟨⟨mkT 26 [(0, .slice a n c), (1, .slice a2 n d2), (5, i64 i)] jX, H, []⟩, True⟩).map (obsQ [0,1,5,14])
  = some (⟨0, [.slice a n c, .slice a2 n d2, i64 i, .bool (decide (i < (n : Int)))], 26, H, []⟩, True) := by kernel_rfl
noncomputable def oo55 (x : Ct) : OpO := orO (idxO Tryz.prog 19) (orO (ldO Tryz.prog 20 (.agg x.cells.toArray)) (orO (idxO Tryz.prog 23) (orO (ldO Tryz.prog 24 (.agg x.cells.toArray)) (neqS 25))))
theorem oo55_sound (x : Ct) : SoundO Tryz.prog (oo55 x) := orO_sound idxO_sound (orO_sound ldO_sound (orO_sound idxO_sound (orO_sound ldO_sound neqS_sound)))
theorem r55e (n : Nat) (i : Int) (x : Ct) (b : Value) (cs ds : List Value) : (ex3 Tryz.prog pCall (oo55 x) 60 (codeOf Tryz.f55 [1,1,0,1,0,0,1]) ⟨⟨mkT 26 [(0, sl 0 n), (1, sl 1 n), (5, i64 i), (14, b)] jX, ⟨2, [(0, .ro cs), (1, .ro ds)]⟩, []⟩, True⟩).map (obs3 [0,1,5] [0,1])
  = some (⟨0, [sl 0 n, sl 1 n, i64 (IntKind.i64.wrap (i + 1))], 26, 2, [.ro cs, .ro ds], []⟩,
    NqC 106 x.cells.toArray x.cells.toArray ∧ LdC Tryz.prog 106 (some ds) (0 + i.toNat * 66) (.agg x.cells.toArray) ∧ ((0 : Int) ≤ i ∧ i < (n : Int)) ∧ LdC Tryz.prog 106 (some cs) (0 + i.toNat * 66) (.agg x.cells.toArray) ∧ ((0 : Int) ≤ i ∧ i < (n : Int)) ∧ True) := by kernel_rfl
theorem r55f (a a2 : Option Addr) (n c d2 : Nat) (i : Value) (b : Value) (o o2 : AObj) : (ex3 Tryz.prog pCall noOO 60 (codeOf Tryz.f55 [1,1,1]) ⟨⟨mkT 26 [(0, .slice a n c), (1, .slice a2 n d2), (5, i), (14, b)] jX, ⟨2, [(0, o), (1, o2)]⟩, []⟩, True⟩).map (fin3 Tryz.prog Tryz.f55 [0,1])
  = some (⟨1, some (.bool true), 2, [o, o2], []⟩, True) := by kernel_rfl
theorem does55 {a a2 : Option Addr} {n c d2 : Nat} {o o2 : AObj} {xs : List Ct} (h : SL 0 a n c o xs.length (xs.flatMap Ct.cells)) (h2 : SL 1 a2 n d2 o2 xs.length (xs.flatMap Ct.cells)) (hb : xs.length ≤ 100000) :
    Does Tryz.prog 55 [.slice a n c, .slice a2 n d2] ⟨2, [(0, o), (1, o2)]⟩ (.bool true) ⟨2, [(0, o), (1, o2)]⟩ := by
  refine val_of_awp Tryz.func55 (c := codeOf Tryz.f55 []) rfl rfl (awp_of_awn (n := 2) ?_ (Nat.le_refl _))
  have hn := h.n
  refine pieceT hm pCall_sound noOO_sound 0 (r55a a a2 n c d2 o o2) rfl trivial rfl ?_
  refine awn_seq (x := codeOf Tryz.f55 [1,0]) (y := codeOf Tryz.f55 [1,1]) ?_
  refine pieceT hm pCall_sound noOO_sound 0 (r55b a a2 n c d2 _) rfl trivial rfl ?_
  refine awn_cond (c := .tmp 10) (b := ((n : Int) != (n : Int))) rfl rfl ?_
  rw [show ((n : Int) != (n : Int)) = false by simp]
  refine awn_skip ?_
  refine awn_seq (x := codeOf Tryz.f55 [1,1,0]) (y := codeOf Tryz.f55 [1,1,1]) ?_
  refine pieceT hm pCall_sound noOO_sound 0 (r55c a a2 n c d2 _ _) rfl trivial rfl ?_
  refine awn_block (c := codeOf Tryz.f55 [1,1,0,1,0]) (awn_loop (c := codeOf Tryz.f55 [1,1,0,1,0,0])
    (fun k T H D => ∃ i, i + k = n ∧ T = mkT 26 [(0, .slice a n c), (1, .slice a2 n d2), (5, i64 (i : Int))] jX ∧ H = mkH 2 [(0, o), (1, o2)] [] ∧ D = [])
    n ⟨_, _, _, .refl _ _ _ _ _, 0, by omega, rfl, rfl, rfl⟩ ?_)
  rintro k T H D ⟨i, hk, rfl, rfl, rfl⟩
  refine awn_seq (x := codeOf Tryz.f55 [1,1,0,1,0,0,0]) (y := codeOf Tryz.f55 [1,1,0,1,0,0,1]) ?_
  refine pieceT hm pCall_sound noOO_sound 0 (r55d a a2 n c d2 _ _) rfl trivial rfl ?_
  refine awn_cond (c := .tmp 14) (b := decide ((i : Int) < (n : Int))) rfl rfl ?_
  cases k with
  | zero =>
    rw [decide_eq_false (by omega)]
    refine awn_exit ?_
    refine pieceF hm pCall_sound noOO_sound (r55f a a2 n c d2 _ _ _ _) trivial ?_
    intro e T H he hr hn hg
    cases tag1 he
    exact ⟨.inr rfl, rfl, _, hr, rfl, keep2 (by rw [hn]; exact Nat.le_refl _) (hg (0, _) (.head _)) (hg (1, _) (.tail _ (.head _)))⟩
  | succ k =>
    rw [decide_eq_true (by omega)]
    refine awn_skip ?_
    obtain ⟨rfl, rfl, rfl⟩ := h.pos (by omega)
    obtain ⟨rfl, rfl, rfl⟩ := h2.pos (by omega)
    have hi : xs[i]? = some xs[i] := List.getElem?_eq_getElem (by omega)
    obtain ⟨hp1, hp2⟩ := flat_part Ct.cells 66 xs (fun x _ => Ct.l66 _) i _ hi
    generalize xs[i]'(by omega) = x at hp1 hp2
    have hr := r55e n (i : Int) x (.bool true) (xs.flatMap Ct.cells) (xs.flatMap Ct.cells)
    have hw := wrap_i1 (i := i) (by omega)
    have hz : 0 + (i : Int).toNat * 66 = i * 66 := by rw [Int.toNat_natCast]; omega
    rw [hw, hz] at hr
    have hL := ldC_agg agg106 siz106 hp2 hp1
    have hc := flat_c2 Ct.cells (fun x => x.cc2) xs
    refine pieceE hm pCall_sound (oo55_sound _) hr ⟨⟨rfl, x.k2, selfCt x, guard106⟩, hL, ⟨by omega, by omega⟩, hL, ⟨by omega, by omega⟩, trivial⟩ rfl 2 [] (os2 := [(0, .ro (xs.flatMap Ct.cells)), (1, .ro (xs.flatMap Ct.cells))]) rfl (.cons ⟨rfl, .ro (RV.all hc)⟩ (.cons ⟨rfl, .ro (RV.all hc)⟩ .nil)) .nil ?_
    intro T H D hN
    exact ⟨k, by omega, _, _, _, hN, i + 1, by omega, rfl, rfl, rfl⟩
structure SmC55 (xs : List Ct) (a : Option Addr) (n c : Nat) (a2 : Option Addr) (n2 d2 : Nat) (H : Heap) : Prop where
  hn : n2 = n
  h : SLH H a n c xs.length (xs.flatMap Ct.cells)
  h2 : SLH H a2 n d2 xs.length (xs.flatMap Ct.cells)
  hb : xs.length ≤ 100000
def sm55 (xs : List Ct) : List Value → Heap → Option CallR := fun args H => match args with
  | [.slice a n c, .slice a2 n2 d2] => some (.same (.bool true) (SmC55 xs a n c a2 n2 d2 H))
  | _ => none
theorem sm55_sound (xs : List Ct) : SoundC Tryz.prog (oneC 55 (sm55 xs)) := oneC_sound fun args H q h => by
  unfold sm55 at h
  split at h
  case h_2 => cases h
  rename_i a n c a2 n2 d2
  cases h
  rintro ⟨rfl, h, h2, hb⟩
  obtain ⟨a0, c0, o, s1, g1, g2, g3⟩ := slh_sl h 0
  obtain ⟨a20, c20, o2, s2, k1, k2, k3⟩ := slh_sl h2 1
  generalize hS : (fun j => if j = 0 then s1 else if j = 1 then s2 else none : Part) = S
  have e0 : S 0 = s1 := by rw [← hS]; rfl
  have e1 : S 1 = s2 := by rw [← hS]; rfl
  refine frame_val (does55 g1 k1 hb) rfl (imp_gen S ?_ (.cons (g2 _ e0) (.cons (k2 _ e1) .nil)) ?_)
  · intro j x hj
    rw [← hS] at hj
    by_cases h0 : j = 0
    · omega
    · by_cases h1 : j = 1
      · omega
      · simp [h0, h1] at hj
  · intro p hp
    simp only [List.mem_cons, List.not_mem_nil, or_false] at hp
    rcases hp with rfl | rfl
    · exact g3 _ e0
    · exact k3 _ e1
end Go.Abs

namespace Go.Abs
open Go.Proofs
set_option maxRecDepth 1000000

-- signatures compared
abbrev a53 (i k : Nat) (p w : Nat) : List Value := sgW (i : Int) (sl p 35) (i : Int) 4 (sl w k)
abbrev h53 (cs ds : List Value) : Heap := ⟨4, [(0, .ro cs), (1, .ro ds), (2, .ro cs), (3, .ro ds)]⟩
abbrev l53 (cs ds : List Value) (i k : Nat) : List (Nat × AObj) := [(0, .ro cs), (1, .ro ds), (2, .ro cs), (3, .ro ds), (4, .cells (a53 i k 0 1) 31), (5, .cells (a53 i k 2 3) 31)]
abbrev v53 (cs ds : List Value) (i k : Nat) : List AObj := [.ro cs, .ro ds, .ro cs, .ro ds, .cells (a53 i k 0 1) 31, .cells (a53 i k 2 3) 31]
theorem r53a (cs ds : List Value) (i k : Nat) (ws : List (List Int)) : (ex3 Tryz.prog pCall (orO (forceO Tryz.prog 10 (.bool false)) (callO Tryz.prog (oneC 17 (spG ws i 4)))) 60 (pre 1 (codeOf Tryz.f53 [])) ⟨⟨[.agg (a53 i k 0 1).toArray, .agg (a53 i k 2 3).toArray] ++ List.replicate 44 undef, h53 cs ds, []⟩, True⟩).map (obs3 [2,3,4] [0,1,2,3,4,5])
  = some (⟨0, [pt 4, pt 5, .bool false], 46, 6, v53 cs ds i k, []⟩, (((i : Int) = (i : Int) ∧ (4 : Int) = (4 : Int) ∧ (i : Int) = (i : Int) ∧ (4 : Int) = (4 : Int)) ∧ SliC ws k 0 ds ∧ SliC ws k 0 ds ∧ ws.length ≤ 100000) ∧ some (Value.bool ((i : Int) != (i : Int))) = some (Value.bool false) ∧ True) := by kernel_rfl
theorem r53b (H : Heap) : (ex3 Tryz.prog pCall noOO 60 (pre 0 (codeOf Tryz.f53 [1,1,0])) ⟨⟨mkT 46 [(2, pt 4), (3, pt 5), (4, .bool false)] jX, H, []⟩, True⟩).map (obsQ [2,3,4,5])
  = some (⟨0, [pt 4, pt 5, .bool false, i64 ((0 : Nat) : Int)], 46, H, []⟩, True) := by kernel_rfl
abbrev T53 (j : Nat) : List Value := mkT 46 [(2, pt 4), (3, pt 5), (4, .bool false), (5, i64 (j : Int))] jX
abbrev T53b (j : Nat) (b : Value) : List Value := mkT 46 [(2, pt 4), (3, pt 5), (4, .bool false), (5, i64 (j : Int)), (32, b)] jX
theorem r53c (cs ds : List Value) (i k j : Nat) : (ex3 Tryz.prog pCall noOO 60 (pre 0 (codeOf Tryz.f53 [1,1,0,1,0,0,0])) ⟨⟨T53 j, mkH 6 (l53 cs ds i k) [], []⟩, True⟩).map (obsQ [2,3,4,5,32])
  = some (⟨0, [pt 4, pt 5, .bool false, i64 (j : Int), .bool (decide ((j : Int) < 35))], 46, mkH 6 (l53 cs ds i k) [], []⟩, True) := by kernel_rfl
noncomputable def oo53 (f : Nat → Int) : OpO := orO (idxO Tryz.prog 38) (orO (ldO Tryz.prog 39 (dig (dgf f))) (orO (idxO Tryz.prog 43) (orO (ldO Tryz.prog 44 (dig (dgf f))) (neqO 45))))
theorem oo53_sound (f : Nat → Int) : SoundO Tryz.prog (oo53 f) := orO_sound idxO_sound (orO_sound ldO_sound (orO_sound idxO_sound (orO_sound ldO_sound neqO_sound)))
theorem r53d (cs ds : List Value) (i k j : Nat) (f : Nat → Int) (b : Value) : (ex3 Tryz.prog pCall (oo53 f) 60 (codeOf Tryz.f53 [1,1,0,1,0,0,1]) ⟨⟨T53b j b, mkH 6 (l53 cs ds i k) [], []⟩, True⟩).map (obs3 [2,3,4,5] [0,1,2,3,4,5])
  = some (⟨0, [pt 4, pt 5, .bool false, cw j], 46, 6, v53 cs ds i k, []⟩,
    NeqC (dA f) (dA f) ∧ LdC Tryz.prog 26 (some cs) (0 + j * 32) (dig (dgf f)) ∧ ((0 : Int) ≤ (j : Int) ∧ (j : Int) < 35) ∧ LdC Tryz.prog 26 (some cs) (0 + j * 32) (dig (dgf f)) ∧ ((0 : Int) ≤ (j : Int) ∧ (j : Int) < 35) ∧ True) := by kernel_rfl
theorem r53e (cs ds : List Value) (i k j : Nat) (b : Value) : (ex3 Tryz.prog pCall noOO 60 (codeOf Tryz.f53 [1,1,1]) ⟨⟨T53b j b, mkH 6 (l53 cs ds i k) [], []⟩, True⟩).map (fin3 Tryz.prog Tryz.f53 [0,1,2,3])
  = some (⟨1, some (.bool true), 6, [.ro cs, .ro ds, .ro cs, .ro ds], []⟩, True) := by kernel_rfl
theorem keep4 {o0 o1 o2 o3 : AObj} {H : Heap} (h1 : 4 ≤ H.next) (hg : ∀ p ∈ (([0,1,2,3] : List Nat).zip [o0, o1, o2, o3]), H.get p.1 = p.2) : Keep ⟨4, [(0, o0), (1, o1), (2, o2), (3, o3)]⟩ H := ⟨h1, fun id hid => by
  have : id = 0 ∨ id = 1 ∨ id = 2 ∨ id = 3 := by have : id < 4 := hid; omega
  rcases this with rfl | rfl | rfl | rfl
  · exact hg (0, _) (.head _)
  · exact hg (1, _) (.tail _ (.head _))
  · exact hg (2, _) (.tail _ (.tail _ (.head _)))
  · exact hg (3, _) (.tail _ (.tail _ (.tail _ (.head _))))⟩
theorem does53 {ps ws : List (List Int)} (hp : ∀ d ∈ ps, d.length = 32) (hw : ∀ d ∈ ws, d.length = 32) (hl : ps.length = 35) (hwl : ws.length ≤ 100) (i : Nat) :
    Does Tryz.prog 53 [.agg (a53 i ws.length 0 1).toArray, .agg (a53 i ws.length 2 3).toArray] (h53 (flatD ps) (flatD ws)) (.bool true) (h53 (flatD ps) (flatD ws)) := by
  refine val_of_awp Tryz.func53 (c := codeOf Tryz.f53 []) rfl rfl (awp_of_awn (n := 4) ?_ (Nat.le_refl _))
  have ob : ∀ σ : List (Nat × Nat), sg 4 σ 4 = some 4 → sg 4 σ 5 = some 5 → F2 (fun (p q : Nat × AObj) => sg 4 σ q.1 = some p.1 ∧ RO (sg 4 σ) p.2 q.2) (([0,1,2,3,4,5] : List Nat).zip (v53 (flatD ps) (flatD ws) i ws.length)) (l53 (flatD ps) (flatD ws) i ws.length) := fun σ h4 h5 =>
    .cons ⟨rfl, .ro (RV.all flatD_c2)⟩ (.cons ⟨rfl, .ro (RV.all flatD_c2)⟩ (.cons ⟨rfl, .ro (RV.all flatD_c2)⟩ (.cons ⟨rfl, .ro (RV.all flatD_c2)⟩ (.cons ⟨h4, .cells (.cons (.closed rfl) (.cons (.slice rfl) (.cons (.closed rfl) (.cons (.closed rfl) (.cons (.slice rfl) .nil)))))⟩ (.cons ⟨h5, .cells (.cons (.closed rfl) (.cons (.slice rfl) (.cons (.closed rfl) (.cons (.closed rfl) (.cons (.slice rfl) .nil)))))⟩ .nil)))))
  refine pieceSX pCall_sound (orO_sound forceO_sound (callO_sound (sp17 _ _ _))) 1 (r53a (flatD ps) (flatD ws) i ws.length ws) rfl ⟨⟨⟨rfl, rfl, rfl, rfl⟩, sliC_self hw, sliC_self hw, by omega⟩, by rw [show ((i : Int) != (i : Int)) = false by simp], trivial⟩ rfl 6 [(4, 4), (5, 5)] (k2 := [(2, pt 4), (3, pt 5), (4, .bool false)]) (os2 := l53 (flatD ps) (flatD ws) i ws.length) (D2 := []) rfl
    (.cons ⟨rfl, .ptr rfl⟩ (.cons ⟨rfl, .ptr rfl⟩ (.cons ⟨rfl, .closed rfl⟩ .nil))) (ob _ rfl rfl) .nil ?_
  refine awn_seq (x := codeOf Tryz.f53 [1,1,0]) (y := codeOf Tryz.f53 [1,1,1]) ?_
  refine pieceT hm pCall_sound noOO_sound 0 (r53b _) rfl trivial rfl ?_
  refine awn_block (c := codeOf Tryz.f53 [1,1,0,1,0]) (awn_loop (c := codeOf Tryz.f53 [1,1,0,1,0,0])
    (fun q T H D => ∃ j, j + q = 35 ∧ T = T53 j ∧ H = mkH 6 (l53 (flatD ps) (flatD ws) i ws.length) [] ∧ D = [])
    35 ⟨_, _, _, .refl _ _ _ _ _, 0, by omega, rfl, rfl, rfl⟩ ?_)
  rintro q T H D ⟨j, hq, rfl, rfl, rfl⟩
  refine awn_seq (x := codeOf Tryz.f53 [1,1,0,1,0,0,0]) (y := codeOf Tryz.f53 [1,1,0,1,0,0,1]) ?_
  refine pieceT hm pCall_sound noOO_sound 0 (r53c _ _ i _ j) rfl trivial rfl ?_
  refine awn_cond (c := .tmp 32) (b := decide ((j : Int) < 35)) rfl rfl ?_
  cases q with
  | zero =>
    rw [decide_eq_false (by omega)]
    refine awn_exit ?_
    refine pieceF hm pCall_sound noOO_sound (r53e _ _ i _ j _) trivial ?_
    intro e T H he hr hn hg
    cases tag1 he
    exact ⟨.inr rfl, rfl, _, hr, rfl, keep4 (by rw [hn]; show 4 ≤ 6; omega) hg⟩
  | succ q =>
    rw [decide_eq_true (by omega)]
    refine awn_skip ?_
    obtain ⟨hx, hx2⟩ := getD_32 hp (i := j) (by omega)
    generalize ps.getD j [] = d at *
    have hL := flatD_at hp hx2
    have hfd : dgf (fn d) = d := dgf_of hx
    rw [← hfd] at hL
    have hr := r53d (flatD ps) (flatD ws) i ws.length j (fn d) (.bool true)
    rw [cw, wrap_i1 (by omega)] at hr
    refine pieceEX pCall_sound (oo53_sound _) hr ⟨neq_ok _, hL, ⟨by omega, by omega⟩, hL, ⟨by omega, by omega⟩, trivial⟩ rfl 6 [(4, 4), (5, 5)] (k2 := [(2, pt 4), (3, pt 5), (4, .bool false), (5, i64 ((j + 1 : Nat) : Int))]) (os2 := l53 (flatD ps) (flatD ws) i ws.length) (D2 := []) rfl
      (.cons ⟨rfl, .ptr rfl⟩ (.cons ⟨rfl, .ptr rfl⟩ (.cons ⟨rfl, .closed rfl⟩ (.cons ⟨rfl, .closed rfl⟩ .nil)))) (ob _ rfl rfl) .nil ?_
    intro T H D hN
    exact ⟨q, by omega, _, _, _, hN, j + 1, by omega, rfl, rfl, rfl⟩
structure SsC (i : Nat) (ps ws : List (List Int)) (z1 z2 z3 z4 b1 b2 : Int) (n1 n2 k1 k2 f1 f2 g1 g2 : Nat) (c1 c2 d1 d2 : List Value) : Prop where
  e1 : z1 = (i : Int)
  e2 : z2 = (i : Int)
  e3 : z3 = (i : Int)
  e4 : z4 = (i : Int)
  e5 : b1 = 4
  e6 : b2 = 4
  p1 : SliC ps n1 f1 c1
  p2 : SliC ps n2 f2 c2
  w1 : SliC ws k1 g1 d1
  w2 : SliC ws k2 g2 d2
  hl : ps.length = 35
  hw : ws.length ≤ 100
def ssG (i : Nat) (ps ws : List (List Int)) : List Value → Heap → Option CallR := fun args H => match args with
  | [.agg ⟨[.int .i64 z1, .slice (some ⟨i1, f1, none⟩) n1 _, .int .i64 z2, .int .i64 b1, .slice (some ⟨j1, g1, none⟩) k1 _]⟩, .agg ⟨[.int .i64 z3, .slice (some ⟨i2, f2, none⟩) n2 _, .int .i64 z4, .int .i64 b2, .slice (some ⟨j2, g2, none⟩) k2 _]⟩] =>
    (match H.row i1, H.row i2, H.row j1, H.row j2 with
    | some c1, some c2, some d1, some d2 => some (.same (.bool true) (SsC i ps ws z1 z2 z3 z4 b1 b2 n1 n2 k1 k2 f1 f2 g1 g2 c1 c2 d1 d2))
    | _, _, _, _ => none)
  | _ => none
theorem ss53 (i : Nat) (ps ws : List (List Int)) : SoundC Tryz.prog (oneC 53 (ssG i ps ws)) := oneC_sound fun args H q h => by
  unfold ssG at h
  split at h
  case h_2 => cases h
  rename_i z1 i1 f1 n1 x1 z2 b1 j1 g1 k1 y1 z3 i2 f2 n2 x2 z4 b2 j2 g2 k2 y2
  split at h
  case h_2 => cases h
  rename_i c1 c2 d1 d2 r1 r2 r3 r4
  cases h
  rintro ⟨rfl, rfl, rfl, rfl, rfl, rfl, ⟨p0, rfl, p3, p4⟩, ⟨_, rfl, q3, q4⟩, ⟨w0, rfl, w3, w4⟩, ⟨_, rfl, v3, v4⟩, hl, hw⟩
  have hp := flatD_len p0
  have hq := flatD_len w0
  generalize hS : (fun j => if j = 0 then some (i1, f1, x1) else if j = 1 then some (j1, g1, y1) else if j = 2 then some (i2, f2, x2) else if j = 3 then some (j2, g2, y2) else none : Part) = S
  have e0 : S 0 = some (i1, f1, x1) := by rw [← hS]; rfl
  have e1 : S 1 = some (j1, g1, y1) := by rw [← hS]; rfl
  have e2 : S 2 = some (i2, f2, x2) := by rw [← hS]; rfl
  have e3 : S 3 = some (j2, g2, y2) := by rw [← hS]; rfl
  have hd : Does Tryz.prog 53 [.agg (sgW (i : Int) (sl 0 ps.length) (i : Int) 4 (sl 1 ws.length)).toArray, .agg (sgW (i : Int) (sl 2 ps.length) (i : Int) 4 (sl 3 ws.length)).toArray] (h53 (flatD ps) (flatD ws)) (.bool true) (h53 (flatD ps) (flatD ws)) := by
    rw [hl]; exact does53 p0 w0 hl hw i
  refine frame_val hd rfl (imp_gen S ?_ (.cons (RI.agg (.cons (.closed rfl) (.cons (RI.slice e0) (.cons (.closed rfl) (.cons (.closed rfl) (.cons (RI.slice e1) .nil)))))) (.cons (RI.agg (.cons (.closed rfl) (.cons (RI.slice e2) (.cons (.closed rfl) (.cons (.closed rfl) (.cons (RI.slice e3) .nil)))))) .nil)) ?_)
  · intro j x hj
    rw [← hS] at hj
    apply Classical.byContradiction
    intro hlt
    have : j ≠ 0 ∧ j ≠ 1 ∧ j ≠ 2 ∧ j ≠ 3 := by omega
    simp [this.1, this.2.1, this.2.2.1, this.2.2.2] at hj
  · intro p hpp
    simp only [List.mem_cons, List.not_mem_nil, or_false] at hpp
    rcases hpp with rfl | rfl | rfl | rfl
    · exact .inr ⟨i1, f1, x1, c1, _, _, e0, r1, rfl, by rw [hp]; exact p4, RI.all flatD_c2, by rw [hp]; exact p3⟩
    · exact .inr ⟨j1, g1, y1, d1, _, _, e1, r3, rfl, by rw [hq]; exact w4, RI.all flatD_c2, by rw [hq]; exact w3⟩
    · exact .inr ⟨i2, f2, x2, c2, _, _, e2, r2, rfl, by rw [hp]; exact q4, RI.all flatD_c2, by rw [hp]; exact q3⟩
    · exact .inr ⟨j2, g2, y2, d2, _, _, e3, r4, rfl, by rw [hq]; exact v4, RI.all flatD_c2, by rw [hq]; exact v3⟩
end Go.Abs

