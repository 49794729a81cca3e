/- For every manifest, seed and index the statements ManifestSigns and ManifestAccepts of law 40 hold, with no condition. -/
import Derived.Test.YtkkocgjpfakfpaaGreatWMb
set_option linter.unusedSimpArgs false
set_option linter.unusedVariables false
namespace Go.Abs
open Go.RowKit (Below)
theorem frame_ctx {P : Program} {ct : Value → Value} (hinv : ∀ E s v', VRel E (ct s) v' → ∃ s', v' = ct s' ∧ VRel E s s') (hmk : ∀ E s s', VRel E s s' → VRel E (ct s) (ct s')) {f : FuncId} {args args0 : List Value} {H H0 H' : Heap} {id n k : Nat} {cs : List Value} {e : TypeId} (h : Does P f args0 H0 (ct (.slice (some ⟨id, 0, none⟩) n k)) H') (hg : H'.get id = .grow cs e) (hc : ∀ v ∈ cs, c2 v = true) (hi : Imp P args H args0 H0) :
    Does P f args H (ct (.slice (some ⟨H.next, 0, none⟩) n k)) (H.push (.grow cs e)) := by
  intro B E w args' hH hA
  obtain ⟨E0, h0, ha0⟩ := hi B E w args' hH hA
  refine (h w.heap.size E0 w args' h0 ha0).mono ?_
  rintro en w' ⟨E', v', h1, h2, h3, h4, h5⟩
  obtain ⟨s3, rfl, g3⟩ := hinv _ _ _ h3
  cases g3 with
  | slice _ _ _ _ l hl hn =>
    have ho := h2.obj id
    rw [hg] at ho
    obtain ⟨l', c', k1, k2, k3, k4, k5, k6, k7, k8⟩ := ho
    rw [hl] at k1; cases k1
    have hkept := hH.kept h4
    have hle := Env.le_add (l := l) hH.newId
    refine ⟨E.add H.next l, _, hle, ⟨hkept.base, fun i l2 hi2 => ?_, fun i => ?_, fun i j li lj hi2 hj mi mj hbb => ?_⟩, hmk _ _ _ (.slice H.next 0 n k l (by simp [Env.add]) hn), h4.mono hH.base, h5⟩
    · unfold Env.add at hi2
      split at hi2
      · rename_i e; subst e; exact Nat.lt_succ_self _
      · exact Nat.lt_succ_of_lt (hH.dom _ _ hi2)
    · rw [Heap.get_push]
      split
      · rename_i e1
        subst e1
        refine ⟨l, c', by simp [Env.add], k2, Nat.le_trans hH.base k3, k4, k5, k6, k7, fun i hi => ?_⟩
        have hm : cs.getD i undef ∈ cs := by rw [List.getD_eq_getElem?_getD, List.getElem?_eq_getElem hi]; exact List.getElem_mem hi
        rw [eq_of_c2 (k8 i hi) (hc _ hm)]
        exact .of_c2 (hc _ hm)
      · exact (hkept.obj i).congr hle (fun _ _ => rfl)
    · have key : ∀ j lj, (E.add H.next l) j = some lj → ((H.push (.grow cs e)).get j).mut = true → j ≠ H.next → E j = some lj ∧ (H.get j).mut = true ∧ lj.blk < w.heap.size := by
        intro j lj hj mj hnj
        rw [Heap.get_push, if_neg (fun e => hnj e.symm)] at mj
        simp only [Env.add, if_neg hnj] at hj
        obtain ⟨l2, q1, _, q3⟩ := (hH.obj j).lt mj
        rw [hj] at q1; cases q1
        exact ⟨hj, mj, q3⟩
      by_cases e1 : i = H.next <;> by_cases e2 : j = H.next
      · rw [e1, e2]
      · exfalso
        obtain ⟨_, _, q⟩ := key j lj hj mj e2
        subst e1
        simp only [Env.add, if_true, Option.some.injEq] at hi2
        subst hi2
        omega
      · exfalso
        obtain ⟨_, _, q⟩ := key i li hi2 mi e1
        subst e2
        simp only [Env.add, if_true, Option.some.injEq] at hj
        subst hj
        omega
      · obtain ⟨q1, q2, _⟩ := key i li hi2 mi e1
        obtain ⟨r1, r2, _⟩ := key j lj hj mj e2
        exact hH.inj i j li lj q1 r1 q2 r2 hbb


/-- A function's body, marks and all: a new row within its result. -/
theorem ctx_of_awpM {P : Program} {ct : Value → Value} (hinv : ∀ E s v', VRel E (ct s) v' → ∃ s', v' = ct s' ∧ VRel E s s') (hmk : ∀ E s s', VRel E s s' → VRel E (ct s) (ct s')) {f : FuncId} {fn : Func} {c : Code} (hf : P.funcs[f]? = some fn) (hb : fn.body = some c) {args : List Value} {H : Heap} {n k : Nat} {cs : List Value} {e : TypeId} (hc : ∀ v ∈ cs, c2 v = true)
    (h : Awp P c (fun ex T' H' D' => (ex = .normal ∨ ex = .ret) ∧ okM P D' H' = true ∧ ∃ u, resA P fn T' (killM D' H') = some u ∧ (∃ id, u = ct (.slice (some ⟨id, 0, none⟩) n k) ∧ H.next ≤ id ∧ (killM D' H').get id = .grow cs e) ∧ Keep H (killM D' H')) (args ++ List.replicate (fn.ntmps - args.length) undef) H []) :
    Does P f args H (ct (.slice (some ⟨H.next, 0, none⟩) n k)) (H.push (.grow cs e)) := by
  intro B E w args' hH hA
  refine (awp_weakM (R := fun u H' => (∃ id, u = ct (.slice (some ⟨id, 0, none⟩) n k) ∧ H.next ≤ id ∧ H'.get id = .grow cs e) ∧ Keep H H') hf hb h B E w args' hH hA).mono ?_
  rintro en w' ⟨E', u, v', H', ⟨⟨id, rfl, hid, hg⟩, hk⟩, h1, h2, h3, h4, h5⟩
  obtain ⟨s3, rfl, g3⟩ := hinv _ _ _ h3
  cases g3 with
  | slice _ _ _ _ l hl hn =>
    have := hH.backNew h1 h2 hk hid hl (.inl hg) hc
    rw [hg] at this
    exact ⟨E.add H.next l, _, Env.le_add hH.newId, this, hmk _ _ _ (.slice H.next 0 n k l (by simp [Env.add]) hn), h4, h5⟩
theorem ctx_of_awp {P : Program} {ct : Value → Value} (hinv : ∀ E s v', VRel E (ct s) v' → ∃ s', v' = ct s' ∧ VRel E s s') (hmk : ∀ E s s', VRel E s s' → VRel E (ct s) (ct s')) {f : FuncId} {fn : Func} {c : Code} (hf : P.funcs[f]? = some fn) (hb : fn.body = some c) {args : List Value} {H : Heap} {n k : Nat} {cs : List Value} {e : TypeId} (hc : ∀ v ∈ cs, c2 v = true)
    (h : Awp P c (fun ex T' H' D' => (ex = .normal ∨ ex = .ret) ∧ (D'.all fun d => quietDefer P d.1 && callable P d.1) = true ∧ ∃ u, resA P fn T' H' = some u ∧ (∃ id, u = ct (.slice (some ⟨id, 0, none⟩) n k) ∧ H.next ≤ id ∧ H'.get id = .grow cs e) ∧ Keep H H') (args ++ List.replicate (fn.ntmps - args.length) undef) H []) :
    Does P f args H (ct (.slice (some ⟨H.next, 0, none⟩) n k)) (H.push (.grow cs e)) := by
  intro B E w args' hH hA
  refine (awp_weak (R := fun u H' => (∃ id, u = ct (.slice (some ⟨id, 0, none⟩) n k) ∧ H.next ≤ id ∧ H'.get id = .grow cs e) ∧ Keep H H') hf hb h B E w args' hH hA).mono ?_
  rintro en w' ⟨E', u, v', H', ⟨⟨id, rfl, hid, hg⟩, hk⟩, h1, h2, h3, h4, h5⟩
  obtain ⟨s3, rfl, g3⟩ := hinv _ _ _ h3
  cases g3 with
  | slice _ _ _ _ l hl hn =>
    have := hH.backNew h1 h2 hk hid hl (.inl hg) hc
    rw [hg] at this
    exact ⟨E.add H.next l, _, Env.le_add hH.newId, this, hmk _ _ _ (.slice H.next 0 n k l (by simp [Env.add]) hn), h4, h5⟩

/-- A proof and no error. -/
def ctP (i n : Int) (s : Value) : Value := .tuple #[.agg #[i64 i, i64 n, s], i64 0]
theorem ctP_mk (i n : Int) (E : Env) (s s' : Value) (h : VRel E s s') : VRel E (ctP i n s) (ctP i n s') :=
  .tuple_iff (.of_lt rfl fun j hj => by
    have : j = 0 ∨ j = 1 := by simp at hj; omega
    rcases this with rfl | rfl
    · exact .agg' (.of_lt rfl fun q hq => by
        have : q = 0 ∨ q = 1 ∨ q = 2 := by simp at hq; omega
        rcases this with rfl | rfl | rfl
        · exact .int _ _
        · exact .int _ _
        · exact h)
    · exact .int _ _)
theorem ctP_inv (i n : Int) (E : Env) (s v' : Value) (h : VRel E (ctP i n s) v') : ∃ s', v' = ctP i n s' ∧ VRel E s s' := by
  unfold ctP at h
  generalize hx : (Value.tuple #[.agg #[i64 i, i64 n, s], i64 0]) = x at h
  cases h with
  | tuple0 => simp at hx
  | tuple a a' hs ha =>
    cases hx
    have hs2 : a'.size = 2 := by simpa using hs.symm
    have h0 := ha 0 (by simp)
    have h1 := ha 1 (by simp)
    have e0 : a'.getD 0 undef = a'[0] := by simp only [Array.getD, hs2]; simp
    have e1 : a'.getD 1 undef = a'[1] := by simp only [Array.getD, hs2]; simp
    rw [e0] at h0
    rw [e1] at h1
    have ea : a' = #[a'[0], a'[1]] := by
      apply Array.ext (by simpa using hs2)
      intro q q1 q2
      have : q = 0 ∨ q = 1 := by simp at q2; omega
      rcases this with rfl | rfl <;> rfl
    generalize a'[0] = x0 at h0 ea
    generalize a'[1] = x1 at h1 ea
    subst ea
    have h1' : VRel E (i64 0) x1 := h1
    cases h1'
    have h0' : VRel E (.agg #[i64 i, i64 n, s]) x0 := h0
    cases h0' with
    | agg _ b hb1 hb2 =>
      have hb3 : b.size = 3 := by simpa using hb1.symm
      have g0 := hb2 0
      have g1 := hb2 1
      have g2 := hb2 2
      have f0 : b.getD 0 undef = b[0] := by simp only [Array.getD, hb3]; simp
      have f1 : b.getD 1 undef = b[1] := by simp only [Array.getD, hb3]; simp
      have f2 : b.getD 2 undef = b[2] := by simp only [Array.getD, hb3]; simp
      rw [f0] at g0
      rw [f1] at g1
      rw [f2] at g2
      have eb : b = #[b[0], b[1], b[2]] := by
        apply Array.ext (by simpa using hb3)
        intro q q1 q2
        have : q = 0 ∨ q = 1 ∨ q = 2 := by simp at q2; omega
        rcases this with rfl | rfl | rfl <;> rfl
      generalize b[0] = y0 at g0 eb
      generalize b[1] = y1 at g1 eb
      generalize b[2] = y2 at g2 eb
      subst eb
      have g0' : VRel E (i64 i) y0 := g0
      have g1' : VRel E (i64 n) y1 := g1
      have g2' : VRel E s y2 := g2
      cases g0'
      cases g1'
      exact ⟨y2, rfl, g2'⟩
  | junk => cases hx
  | bool => cases hx
  | int => cases hx
  | string => cases hx
  | ptrNil => cases hx
  | ptr => cases hx
  | sliceNil => cases hx
  | slice => cases hx
  | anon => cases hx
  | anonE => cases hx
  | yld => cases hx
  | mapNil => cases hx
  | map => cases hx
  | func => cases hx
  | nilFunc => cases hx
  | iface => cases hx
  | nilIface => cases hx
  | agg => cases hx
end Go.Abs

namespace Go.Abs
open Go.Proofs
set_option maxRecDepth 1000000

/-- The place beside. -/
def xo (p : Nat) : Nat := if p % 2 = 0 then p + 1 else p - 1
theorem xor1_all : ∀ p : Nat, p < 128 → IntKind.i64.wrap (((BitVec.ofInt IntKind.i64.bits (p : Int) ^^^ BitVec.ofInt IntKind.i64.bits 1).toNat : Nat) : Int) = ((xo p : Nat) : Int) := by decide +kernel
theorem xor1 {p : Nat} (h : p < 128) : IntKind.i64.wrap (((BitVec.ofInt IntKind.i64.bits (p : Int) ^^^ BitVec.ofInt IntKind.i64.bits 1).toNat : Nat) : Int) = ((xo p : Nat) : Int) := xor1_all p h
theorem xo_lt {p : Nat} (h : p < 127) : xo p < 128 := by unfold xo; split <;> omega
/-- The siblings of a place, level by level. -/
def sib1 (p : Nat) (ls : List (List Int)) : List (List Int) := if xo p < ls.length then [ls.getD (xo p) []] else []
def sibS : Nat → Nat → List (List Int) → List (List Int)
  | 0, _, _ => []
  | k + 1, p, ls => sib1 p ls ++ (if ls.length ≤ 1 then [] else sibS k (p / 2) (upS ls))
theorem sib1_32 {p : Nat} {ls : List (List Int)} (h : ∀ d ∈ ls, d.length = 32) : ∀ d ∈ sib1 p ls, d.length = 32 := by
  intro d hd
  unfold sib1 at hd
  split at hd
  · rename_i hx
    rw [List.mem_singleton.1 hd]
    exact (getD_32 h hx).1
  · cases hd
theorem sibS_32 : ∀ {k p : Nat} {ls : List (List Int)}, (∀ d ∈ ls, d.length = 32) → ∀ d ∈ sibS k p ls, d.length = 32
  | 0, _, _, _, d, hd => by cases hd
  | k + 1, p, ls, h, d, hd => by
    unfold sibS at hd
    rcases List.mem_append.1 hd with hd | hd
    · exact sib1_32 h d hd
    · split at hd
      · cases hd
      · exact sibS_32 (upS_32 h) d hd
theorem sibS_len : ∀ (k p : Nat) (ls : List (List Int)), (sibS k p ls).length ≤ k
  | 0, _, _ => by simp [sibS]
  | k + 1, p, ls => by
    unfold sibS
    rw [List.length_append]
    have h1 : (sib1 p ls).length ≤ 1 := by unfold sib1; split <;> simp
    have h2 : (if ls.length ≤ 1 then [] else sibS k (p / 2) (upS ls)).length ≤ k := by
      split
      · simp
      · exact sibS_len k _ _
    omega
theorem sibS_pos : ∀ {q p : Nat} {ls : List (List Int)}, 2 ≤ ls.length → p < ls.length → ls.length ≤ q + 1 → 0 < (sibS (q + 1) p ls).length
  | q, p, ls, h1, h2, h3 => by
    unfold sibS
    rw [List.length_append]
    by_cases hx : xo p < ls.length
    · have : (sib1 p ls).length = 1 := by unfold sib1; rw [if_pos hx]; rfl
      omega
    · have hp : xo p = p + 1 ∧ p + 1 = ls.length ∧ p % 2 = 0 := by
        unfold xo at hx ⊢
        split at hx
        · rename_i h; rw [if_pos h]; omega
        · omega
      rw [if_neg (by omega)]
      obtain ⟨q', rfl⟩ : ∃ q', q = q' + 1 := ⟨q - 1, by omega⟩
      have hul := upS_len ls
      have := sibS_pos (q := q') (p := p / 2) (ls := upS ls) (by omega) (by omega) (by omega)
      omega
  termination_by q => q

abbrev pf (i n : Nat) (s : Value) : List Value := [i64 (i : Int), i64 (n : Int), s]
abbrev T41 (n : Nat) : List Value := mkT 49 [(0, sl 0 n), (4, pt 1), (5, pt 2), (6, pt 3), (29, cl130)] jX
noncomputable def c41 : Code := codeOf Tryz.f41 [1,1,1,1,1,1,0,1,0]
noncomputable def asn41 : Code := match codeOf Tryz.f41 [1,1,1,1,1,1,0,1,0] with | .rangeFunc _ _ a _ => a | _ => .skip
noncomputable def bod41 : Code := match codeOf Tryz.f41 [1,1,1,1,1,1,0,1,0] with | .rangeFunc _ _ _ b => b | _ => .skip
theorem c41_eq : c41 = .rangeFunc (.tmp 29) #[30] asn41 bod41 := by kernel_rfl
theorem c41_eq' : codeOf Tryz.f41 [1,1,1,1,1,1,0,1,0] = .rangeFunc (.tmp 29) #[30] asn41 bod41 := by kernel_rfl
abbrev D41 : Defs := [(83, [pt 1, pt 2])]
theorem r41a (cs : List Value) (n i : Nat) : (ex3 Tryz.prog pCall noOO 60 (pre 1 (codeOf Tryz.f41 [])) ⟨⟨[sl 0 n, i64 (i : Int)] ++ List.replicate 47 undef, ⟨1, [(0, .ro cs)]⟩, []⟩, True⟩).map (obs3 [0,1,4,5] [0,1,2])
  = some (⟨0, [sl 0 n, i64 (i : Int), pt 1, pt 2], 49, 3, [.ro cs, .cells [i64 0, i64 0, nilS] 29, .cells [i64 0] 43], D41⟩, True) := by kernel_rfl
theorem r41b (n i : Nat) (H : Heap) (D : Defs) : (ex3 Tryz.prog pCall noOO 60 (pre 0 (codeOf Tryz.f41 [1,1,0])) ⟨⟨mkT 49 [(0, sl 0 n), (1, i64 (i : Int)), (4, pt 1), (5, pt 2)] jX, H, D⟩, True⟩).map (obsQ [0,1,4,5,12])
  = some (⟨0, [sl 0 n, i64 (i : Int), pt 1, pt 2, .bool (decide ((n : Int) > 4096))], 49, H, D⟩, True) := by kernel_rfl
theorem r41c (n i : Nat) (b : Value) (H : Heap) (D : Defs) : (ex3 Tryz.prog pCall (orO (forceO Tryz.prog 15 (.bool false)) (forceO Tryz.prog 20 (.bool false))) 60 (pre 0 (codeOf Tryz.f41 [1,1,1,0])) ⟨⟨mkT 49 [(0, sl 0 n), (1, i64 (i : Int)), (4, pt 1), (5, pt 2), (12, b)] jX, H, D⟩, True⟩).map (obsQ [0,1,4,5,21])
  = some (⟨0, [sl 0 n, i64 (i : Int), pt 1, pt 2, .bool false], 49, H, D⟩, some (Value.bool (decide ((i : Int) ≥ (n : Int)))) = some (Value.bool false) ∧ some (Value.bool false) = some (Value.bool false) ∧ True) := by kernel_rfl
theorem r41d (n i : Nat) (b : Value) (cs : List Value) : (ex3 Tryz.prog pCall noOO 60 (pre 1 (codeOf Tryz.f41 [1,1,1,1])) ⟨⟨mkT 49 [(0, sl 0 n), (1, i64 (i : Int)), (4, pt 1), (5, pt 2), (21, b)] jX, mkH 3 [(0, .ro cs), (1, .cells [i64 0, i64 0, nilS] 29), (2, .cells [i64 0] 43)] [], D41⟩, True⟩).map (obs3 [0,4,5,6] [0,1,2,3])
  = some (⟨0, [sl 0 n, pt 1, pt 2, pt 3], 49, 4, [.ro cs, .cells (pf i n nilS) 29, .cells [i64 0] 43, .cells [i64 (i : Int)] 3], D41⟩, True) := by kernel_rfl
theorem r41e (n i : Nat) (cs : List Value) : (ex3 Tryz.prog pCall (callO Tryz.prog (inC Tryz.prog pCall noOO 60 [78])) 60 (pre 0 (codeOf Tryz.f41 [1,1,1,1,1,1,0])) ⟨⟨mkT 49 [(0, sl 0 n), (4, pt 1), (5, pt 2), (6, pt 3)] jX, mkH 4 [(0, .ro cs), (1, .cells (pf i n nilS) 29), (2, .cells [i64 0] 43), (3, .cells [i64 (i : Int)] 3)] [], D41⟩, True⟩).map (obsQ [0,4,5,6,29])
  = some (⟨0, [sl 0 n, pt 1, pt 2, pt 3, cl130], 49, ⟨5, [(4, .cells [sl 0 n] 27), (0, .ro cs), (1, .cells (pf i n nilS) 29), (2, .cells [i64 0] 43), (3, .cells [i64 (i : Int)] 3)]⟩, D41⟩, True ∧ True) := by kernel_rfl
noncomputable abbrev HP (n : Nat) (cs : List Value) (o1 o3 : AObj) (k : Nat) (l : List (Nat × AObj)) : Heap := mkH k ([(6, .lp (T41 n) c41 false), (5, .df), (0, .ro cs), (1, o1), (2, .cells [i64 0] 43), (3, o3), (4, .cells [sl 0 n] 27)] ++ l) []
noncomputable abbrev oP (n : Nat) (cs : List Value) (o1 o3 : AObj) : List AObj := [.lp (T41 n) c41 false, .df, .ro cs, o1, .cells [i64 0] 43, o3, .cells [sl 0 n] 27]
theorem r41f (n i k : Nat) (cs ss : List Value) (o3 : AObj) : (ex3 Tryz.prog pCall noOO 60 (codeOf Tryz.f41 [1,1,1,1,1,1,1]) ⟨⟨T41 n, (HP n cs (.cells (pf i n (sl 8 k)) 29) o3 9 [(8, .grow ss 26)]).put 6 .dead, (markF, [.pointer (some ⟨5, 0, none⟩)]) :: D41⟩, True⟩).map (finM Tryz.prog Tryz.f41 [0,8])
  = some (⟨1, some (ctP (i : Int) (n : Int) (sl 8 k)), true, 9, [.ro cs, .grow ss 26]⟩, True) := by kernel_rfl

-- the iterator, in this heap
theorem q130a (n : Nat) (cs : List Value) (o1 o3 : AObj) : (ex3 Tryz.prog pCall noOO 60 (pre 0 (codeOf Tryz.f130 [0])) ⟨⟨[yv, pt 4] ++ List.replicate 33 undef, HP n cs o1 o3 7 [], []⟩, True⟩).map (obsQ [0,1,8])
  = some (⟨0, [yv, pt 4, .bool ((n : Int) == 0)], 35, HP n cs o1 o3 7 [], []⟩, True) := by kernel_rfl
theorem q130b (n : Nat) (cs zs : List Value) (o1 o3 : AObj) (b : Value) : (ex3 Tryz.prog pCall (mkG Tryz.prog 11 zs) 60 (pre 0 (codeOf Tryz.f130 [1])) ⟨⟨mkT 35 [(0, yv), (1, pt 4), (8, b)] jX, HP n cs o1 o3 7 [], []⟩, True⟩).map (obs3 [0,1,3] (obT ++ [7]))
  = some (⟨0, [yv, pt 4, sl 7 n], 35, 8, oP n cs o1 o3 ++ [.grow zs 26], []⟩, MkC 32 32 zD.toArray (n : Int) (n : Int) zs ∧ True) := by kernel_rfl
theorem q130c (n : Nat) (cs zs : List Value) (o1 o3 : AObj) : (ex3 Tryz.prog pCall noOO 60 (pre 0 (codeOf Tryz.f130 [1,1,0])) ⟨⟨mkT 35 [(0, yv), (1, pt 4), (3, sl 7 n)] jX, HP n cs o1 o3 8 [(7, .grow zs 26)], []⟩, True⟩).map (obsQ [0,1,3,12,13,14])
  = some (⟨0, [yv, pt 4, sl 7 n, sl 0 n, i64 (n : Int), i64 ((0 : Nat) : Int)], 35, HP n cs o1 o3 8 [(7, .grow zs 26)], []⟩, True) := by kernel_rfl
theorem q130e (n : Nat) (i : Int) (f g : Nat → Int) (cs zs : List Value) (o1 o3 : AObj) (b : Value) : (ex3 Tryz.prog pCall (oo130 f g) 60 (codeOf Tryz.f130 [1,1,0,1,0,0,1,1]) ⟨⟨mkT 35 [(0, yv), (1, pt 4), (3, sl 7 n), (12, sl 0 n), (13, i64 n), (14, i64 i), (15, b)] jX, HP n cs o1 o3 8 [(7, .grow zs 26)], []⟩, True⟩).map (obs3 [0,1,3,12,13,14] (obT ++ [7]))
  = some (⟨0, [yv, pt 4, sl 7 n, sl 0 n, i64 (n : Int), i64 (IntKind.i64.wrap (i + 1))], 35, 9, oP n cs o1 o3 ++ [.grow (splice zs (0 + i.toNat * 32) (bytes (dgf g))) 26], []⟩,
    StC (bytes (dgf g)) 32 (0 + i.toNat * 32) zs ∧ ((0 : Int) ≤ i ∧ i < (n : Int)) ∧ ((dgf f).length = 32 ∧ dig (dgf f) = dig (dgf f) ∧ dgf g = nodeS (dgf f)) ∧ LdC Tryz.prog 26 (some cs) (0 + i.toNat * 32) (dig (dgf f)) ∧ ((0 : Int) ≤ i ∧ i < (n : Int)) ∧ True) := by kernel_rfl
def XoC (p x : Nat) : Prop := some (i64 (IntKind.i64.wrap (((BitVec.ofInt IntKind.i64.bits (p : Int) ^^^ BitVec.ofInt IntKind.i64.bits 1).toNat : Nat) : Int))) = some (i64 (x : Int))
theorem xoC_ok {p : Nat} (h : p < 128) : XoC p (xo p) := by unfold XoC; rw [xor1 h]
noncomputable def oY (x : Nat) (f : Nat → Int) : OpO := yldO Tryz.prog pCall (orO (forceO Tryz.prog 32 (i64 (x : Int))) (orO (forceO Tryz.prog 36 (.bool true)) (orO (idxO Tryz.prog 41) (orO (ldO Tryz.prog 42 (dig (dgf f))) (appO Tryz.prog 44))))) 60 27
theorem oY_sound (x : Nat) (f : Nat → Int) : SoundO Tryz.prog (oY x f) := yldO_sound hm pCall_sound (orO_sound forceO_sound (orO_sound forceO_sound (orO_sound idxO_sound (orO_sound ldO_sound appO_sound))))
noncomputable def oN (x : Nat) : OpO := yldO Tryz.prog pCall (orO (forceO Tryz.prog 32 (i64 (x : Int))) (forceO Tryz.prog 36 (.bool false))) 60 27
theorem oN_sound (x : Nat) : SoundO Tryz.prog (oN x) := yldO_sound hm pCall_sound (orO_sound forceO_sound forceO_sound)
theorem q130f (n i k p x : Nat) (f : Nat → Int) (cs zs : List Value) : (ex3 Tryz.prog pCall (oY x f) 60 (pre 0 (codeOf Tryz.f130 [1,1,1,0,0,0])) ⟨⟨mkT 35 [(0, yv), (1, pt 4), (3, sl 7 k)] jX, HP n cs (.cells (pf i n nilS) 29) (.cells [i64 (p : Int)] 3) 8 [(7, .grow zs 26)], []⟩, True⟩).map (obs3 [0,1,3,32] (obT ++ [7,9]))
  = some (⟨0, [yv, pt 4, sl 7 k, .bool (decide ((k : Int) > 1))], 35, 10, oP n cs (.cells (pf i n (sl 9 1)) 29) (.cells [i64 (IntKind.i64.wrap ((p : Int).tdiv 2))] 3) ++ [.grow zs 26, .grow (bytes (dgf f)) 26], []⟩,
    (LpC (.lp (T41 n) c41 false) (T41 n) c41 false ∧ LpC (.lp (T41 n) c41 true) (T41 n) c41 true ∧ some nilS = some nilS ∧ LdC Tryz.prog 26 (some zs) (0 + x * 32) (dig (dgf f)) ∧ ((0 : Int) ≤ (x : Int) ∧ (x : Int) < (k : Int)) ∧ some (Value.bool (decide ((x : Int) < (k : Int)))) = some (Value.bool true) ∧ XoC p x ∧ True) ∧ True) := by kernel_rfl
theorem q130g (n i k p x j : Nat) (f : Nat → Int) (cs zs ds : List Value) : (ex3 Tryz.prog pCall (oY x f) 60 (pre 0 (codeOf Tryz.f130 [1,1,1,0,0,0])) ⟨⟨mkT 35 [(0, yv), (1, pt 4), (3, sl 7 k)] jX, HP n cs (.cells (pf i n (sl 8 j)) 29) (.cells [i64 (p : Int)] 3) 9 [(7, .grow zs 26), (8, .grow ds 26)], []⟩, True⟩).map (obs3 [0,1,3,32] (obT ++ [7,10]))
  = some (⟨0, [yv, pt 4, sl 7 k, .bool (decide ((k : Int) > 1))], 35, 11, oP n cs (.cells (pf i n (sl 10 (j + 1))) 29) (.cells [i64 (IntKind.i64.wrap ((p : Int).tdiv 2))] 3) ++ [.grow zs 26, .grow (ds.take (j * (31 + 1)) ++ bytes (dgf f)) 26], []⟩,
    (LpC (.lp (T41 n) c41 false) (T41 n) c41 false ∧ LpC (.lp (T41 n) c41 true) (T41 n) c41 true ∧ AppC 32 31 32 26 26 0 capG j 1 0 ds (bytes (dgf f)) ∧ some (sl 8 j) = some (sl 8 j) ∧ LdC Tryz.prog 26 (some zs) (0 + x * 32) (dig (dgf f)) ∧ ((0 : Int) ≤ (x : Int) ∧ (x : Int) < (k : Int)) ∧ some (Value.bool (decide ((x : Int) < (k : Int)))) = some (Value.bool true) ∧ XoC p x ∧ True) ∧ True) := by kernel_rfl
theorem q130h (n i k p x : Nat) (cs zs : List Value) : (ex3 Tryz.prog pCall (oN x) 60 (pre 0 (codeOf Tryz.f130 [1,1,1,0,0,0])) ⟨⟨mkT 35 [(0, yv), (1, pt 4), (3, sl 7 k)] jX, HP n cs (.cells (pf i n nilS) 29) (.cells [i64 (p : Int)] 3) 8 [(7, .grow zs 26)], []⟩, True⟩).map (obs3 [0,1,3,32] (obT ++ [7]))
  = some (⟨0, [yv, pt 4, sl 7 k, .bool (decide ((k : Int) > 1))], 35, 8, oP n cs (.cells (pf i n nilS) 29) (.cells [i64 (IntKind.i64.wrap ((p : Int).tdiv 2))] 3) ++ [.grow zs 26], []⟩,
    (LpC (.lp (T41 n) c41 false) (T41 n) c41 false ∧ LpC (.lp (T41 n) c41 true) (T41 n) c41 true ∧ some (Value.bool (decide ((x : Int) < (k : Int)))) = some (Value.bool false) ∧ XoC p x ∧ True) ∧ True) := by kernel_rfl
theorem q130i (n i k p x j : Nat) (cs zs ds : List Value) : (ex3 Tryz.prog pCall (oN x) 60 (pre 0 (codeOf Tryz.f130 [1,1,1,0,0,0])) ⟨⟨mkT 35 [(0, yv), (1, pt 4), (3, sl 7 k)] jX, HP n cs (.cells (pf i n (sl 8 j)) 29) (.cells [i64 (p : Int)] 3) 9 [(7, .grow zs 26), (8, .grow ds 26)], []⟩, True⟩).map (obs3 [0,1,3,32] (obT ++ [7,8]))
  = some (⟨0, [yv, pt 4, sl 7 k, .bool (decide ((k : Int) > 1))], 35, 9, oP n cs (.cells (pf i n (sl 8 j)) 29) (.cells [i64 (IntKind.i64.wrap ((p : Int).tdiv 2))] 3) ++ [.grow zs 26, .grow ds 26], []⟩,
    (LpC (.lp (T41 n) c41 false) (T41 n) c41 false ∧ LpC (.lp (T41 n) c41 true) (T41 n) c41 true ∧ some (Value.bool (decide ((x : Int) < (k : Int)))) = some (Value.bool false) ∧ XoC p x ∧ True) ∧ True) := by kernel_rfl
theorem q130j (n k : Nat) (ks : List (List Int)) (cs zs : List Value) (o1 o3 : AObj) (b : Value) : (ex3 Tryz.prog pCall (callO Tryz.prog (oneC 132 (upG ks))) 60 (codeOf Tryz.f130 [1,1,1,0,0,1]) ⟨⟨mkT 35 [(0, yv), (1, pt 4), (3, sl 7 k), (32, b)] jX, HP n cs o1 o3 8 [(7, .grow zs 26)], []⟩, True⟩).map (obs3 [0,1,3] (obT ++ [8]))
  = some (⟨0, [yv, pt 4, sl 8 (upS ks).length], 35, 9, oP n cs o1 o3 ++ [grD (upS ks)], []⟩, (SliC ks k 0 zs ∧ 2 ≤ k ∧ k ≤ 1000) ∧ True) := by kernel_rfl
theorem q130k (n k : Nat) (ks : List (List Int)) (cs zs ds : List Value) (o1 o3 : AObj) (b : Value) : (ex3 Tryz.prog pCall (callO Tryz.prog (oneC 132 (upG ks))) 60 (codeOf Tryz.f130 [1,1,1,0,0,1]) ⟨⟨mkT 35 [(0, yv), (1, pt 4), (3, sl 7 k), (32, b)] jX, HP n cs o1 o3 9 [(7, .grow zs 26), (8, .grow ds 26)], []⟩, True⟩).map (obs3 [0,1,3] (obT ++ [9,8]))
  = some (⟨0, [yv, pt 4, sl 9 (upS ks).length], 35, 10, oP n cs o1 o3 ++ [grD (upS ks), .grow ds 26], []⟩, (SliC ks k 0 zs ∧ 2 ≤ k ∧ k ≤ 1000) ∧ True) := by kernel_rfl
end Go.Abs

namespace Go.Abs
open Go.Proofs
set_option maxRecDepth 1000000

theorem T41_RV {σ : Nat → Option Nat} {n : Nat} (h0 : σ 0 = some 0) (h1 : σ 1 = some 1) (h2 : σ 2 = some 2) (h3 : σ 3 = some 3) (h4 : σ 4 = some 4) : F2 (RV σ) (T41 n) (T41 n) :=
  mkT_RV (.cons ⟨rfl, .slice h0⟩ (.cons ⟨rfl, .ptr h1⟩ (.cons ⟨rfl, .ptr h2⟩ (.cons ⟨rfl, .ptr h3⟩ (.cons ⟨rfl, .clo h4⟩ .nil)))))

/-- The final place. -/
def plS : Nat → Nat → List (List Int) → Nat
  | 0, p, _ => p / 2
  | k + 1, p, ls => if ls.length ≤ 1 then p / 2 else plS k (p / 2) (upS ls)

abbrev oPf (i n : Nat) (s : Value) : AObj := .cells (pf i n s) 29
abbrev oPl (p : Nat) : AObj := .cells [i64 (p : Int)] 3
theorem RO.pf {σ : Nat → Option Nat} {i n : Nat} {s s' : Value} (h : RV σ s s') : RO σ (oPf i n s) (oPf i n s') := .cells (.cons (.closed rfl) (.cons (.closed rfl) (.cons h .nil)))
theorem RO.pl {σ : Nat → Option Nat} {p : Nat} : RO σ (oPl p) (oPl p) := .cells (.cons (.closed rfl) .nil)

/-- The objects of the loop over the levels, under the same names. -/
theorem obsP {n : Nat} {s : List (Nat × Nat)} {cs : List Value} {o1 o1' o3 o3' : AObj} {is : List Nat} {os : List AObj} {l : List (Nat × AObj)} (hc : ∀ v ∈ cs, c2 v = true) (h1 : RO (sg 7 s) o1 o1') (h3 : RO (sg 7 s) o3 o3') (ho : F2 (fun (p q : Nat × AObj) => sg 7 s q.1 = some p.1 ∧ RO (sg 7 s) p.2 q.2) (is.zip os) l) :
    F2 (fun (p q : Nat × AObj) => sg 7 s q.1 = some p.1 ∧ RO (sg 7 s) p.2 q.2) ((obT ++ is).zip (oP n cs o1 o3 ++ os)) ([(6, .lp (T41 n) c41 false), (5, .df), (0, .ro cs), (1, o1'), (2, .cells [i64 0] 43), (3, o3'), (4, .cells [sl 0 n] 27)] ++ l) :=
  .cons ⟨rfl, .lp (T41_RV rfl rfl rfl rfl rfl)⟩ (.cons ⟨rfl, .df⟩ (.cons ⟨rfl, .ro (RV.all hc)⟩ (.cons ⟨rfl, h1⟩ (.cons ⟨rfl, .cells (.cons (.closed rfl) .nil)⟩ (.cons ⟨rfl, h3⟩ (.cons ⟨rfl, .cells (.cons (.slice rfl) .nil)⟩ ho))))))

theorem pl_half {p : Nat} (h : p < 128) : IntKind.i64.wrap ((p : Int).tdiv 2) = ((p / 2 : Nat) : Int) := by
  rw [show ((p : Int).tdiv 2) = ((p / 2 : Nat) : Int) by rw [Int.tdiv_eq_ediv_of_nonneg (by omega)]; rfl]
  exact wrapI (by omega) (by omega)

/-- The heap between two rounds. -/
noncomputable def HS (n i : Nat) (cs : List Value) (don : List (List Int)) (p : Nat) (lv : AObj) : Heap :=
  match don with
  | [] => HP n cs (oPf i n nilS) (oPl p) 8 [(7, lv)]
  | d :: l => HP n cs (oPf i n (sl 8 (d :: l).length)) (oPl p) 9 [(7, lv), (8, grD (d :: l))]

theorem HS_cons {n i : Nat} {cs : List Value} {don : List (List Int)} {p : Nat} {lv : AObj} (h : don ≠ []) : HS n i cs don p lv = HP n cs (oPf i n (sl 8 don.length)) (oPl p) 9 [(7, lv), (8, grD don)] := by
  cases don with
  | nil => exact absurd rfl h
  | cons d l => rfl

abbrev T130b (k : Nat) (b : Bool) : List Value := mkT 35 [(0, yv), (1, pt 4), (3, sl 7 k), (32, .bool b)] jX
theorem round_y {n i p : Nat} {Q : APost} {cs : List Value} {don ks : List (List Int)} (hc : ∀ v ∈ cs, c2 v = true) (hk : ∀ d ∈ ks, d.length = 32) (hd : ∀ d ∈ don, d.length = 32) (hdl : don.length ≤ 1000) (hp : p < 127) (hkl : ks.length ≤ 1000)
    (hQ : Awn Tryz.prog 7 (rst 0 (codeOf Tryz.f130 [1,1,1,0,0,0])) Q (T130b ks.length (decide ((ks.length : Int) > 1))) (HS n i cs (don ++ sib1 p ks) (p / 2) (grD ks)) []) :
    Awn Tryz.prog 7 (codeOf Tryz.f130 [1,1,1,0,0,0]) Q (T130 ks.length) (HS n i cs don p (grD ks)) [] := by
  have hh := pl_half (p := p) (by omega)
  have hx := xoC_ok (p := p) (by omega)
  have hxl := xo_lt hp
  by_cases h : xo p < ks.length
  · obtain ⟨hl1, hl2⟩ := getD_32 hk (i := xo p) h
    have e1 : sib1 p ks = [ks.getD (xo p) []] := by unfold sib1; rw [if_pos h]
    rw [e1] at hQ
    generalize ks.getD (xo p) [] = d at *
    have hld := flatD_at hk hl2
    have hdf : dgf (fn d) = d := dgf_of hl1
    cases don with
    | nil =>
      have hr := q130f n i ks.length p (xo p) (fn d) cs (flatD ks)
      rw [hdf, hh] at hr
      refine pieceS hm pCall_sound (oY_sound _ _) 0 hr rfl ⟨⟨rfl, rfl, rfl, hld, ⟨by omega, by omega⟩, by rw [decide_eq_true (by omega)], hx, trivial⟩, trivial⟩ rfl 9 [(7, 7), (8, 9)] rfl
        (obsP (is := [7, 9]) (l := [(7, grD ks), (8, .grow (bytes d) 26)]) hc (.pf (.slice (i := 9) (j := 8) rfl)) .pl (.cons ⟨rfl, RO.grD (ds := ks)⟩ (.cons ⟨rfl, .grow (RV.all bytes_c2)⟩ .nil))) .nil ?_
      have e2 : flatD [d] = bytes d := by simp [flatD]
      have e3 : HS n i cs ([] ++ [d]) (p / 2) (grD ks) = HP n cs (oPf i n (sl 8 1)) (oPl (p / 2)) 9 [(7, grD ks), (8, .grow (bytes d) 26)] := by
        show HP n cs (oPf i n (sl 8 1)) (oPl (p / 2)) 9 [(7, grD ks), (8, grD [d])] = _
        rw [show grD [d] = .grow (bytes d) 26 by rw [grD, e2]]
      rw [e3] at hQ
      exact hQ
    | cons x l =>
      have hr := q130g n i ks.length p (xo p) (x :: l).length (fn d) cs (flatD ks) (flatD (x :: l))
      rw [hdf, hh, take_flatD hd] at hr
      have ha := appD (f := fn d) hd (by omega)
      rw [hdf] at ha
      refine pieceS hm pCall_sound (oY_sound _ _) 0 hr rfl ⟨⟨rfl, rfl, ha, rfl, hld, ⟨by omega, by omega⟩, by rw [decide_eq_true (by omega)], hx, trivial⟩, trivial⟩ rfl 9 [(7, 7), (8, 10)] rfl
        (obsP (is := [7, 10]) (l := [(7, grD ks), (8, grD (x :: l ++ [d]))]) hc (.pf (.slice (i := 10) (j := 8) rfl)) .pl (.cons ⟨rfl, RO.grD (ds := ks)⟩ (.cons ⟨rfl, RO.grD (ds := x :: l ++ [d])⟩ .nil))) .nil ?_
      rw [HS_cons (by simp), show (x :: l ++ [d]).length = (x :: l).length + 1 by simp] at hQ
      exact hQ
  · have e1 : sib1 p ks = [] := by unfold sib1; rw [if_neg h]
    rw [e1, List.append_nil] at hQ
    cases don with
    | nil =>
      have hr := q130h n i ks.length p (xo p) cs (flatD ks)
      rw [hh] at hr
      refine pieceS hm pCall_sound (oN_sound _) 0 hr rfl ⟨⟨rfl, rfl, by rw [decide_eq_false (by omega)], hx, trivial⟩, trivial⟩ rfl 8 [(7, 7)] rfl
        (obsP (is := [7]) (l := [(7, grD ks)]) hc (.pf (.closed rfl)) .pl (.cons ⟨rfl, RO.grD (ds := ks)⟩ .nil)) .nil ?_
      exact hQ
    | cons x l =>
      have hr := q130i n i ks.length p (xo p) (x :: l).length cs (flatD ks) (flatD (x :: l))
      rw [hh] at hr
      refine pieceS hm pCall_sound (oN_sound _) 0 hr rfl ⟨⟨rfl, rfl, by rw [decide_eq_false (by omega)], hx, trivial⟩, trivial⟩ rfl 9 [(7, 7), (8, 8)] rfl
        (obsP (is := [7, 8]) (l := [(7, grD ks), (8, grD (x :: l))]) hc (.pf (.slice (i := 8) (j := 8) rfl)) .pl (.cons ⟨rfl, RO.grD (ds := ks)⟩ (.cons ⟨rfl, RO.grD (ds := x :: l)⟩ .nil))) .nil ?_
      exact hQ

theorem round_up {n i p : Nat} {Q : APost} {cs : List Value} {don ks : List (List Int)} {b : Bool} (hc : ∀ v ∈ cs, c2 v = true) (hk : ∀ d ∈ ks, d.length = 32) (h2 : 2 ≤ ks.length) (hkl : ks.length ≤ 1000)
    (hQ : ∀ T H D, Nrm Tryz.prog 7 T H D (T130 (upS ks).length) (HS n i cs don p (grD (upS ks))) [] → Q .normal T H D) :
    Awn Tryz.prog 7 (codeOf Tryz.f130 [1,1,1,0,0,1]) Q (T130b ks.length b) (HS n i cs don p (grD ks)) [] := by
  have hsl : SliC ks ks.length 0 (flatD ks) := ⟨hk, rfl, by rw [flatD_len hk]; omega, by rw [List.drop_zero, ← flatD_len hk, List.take_length]⟩
  cases don with
  | nil =>
    refine pieceE hm pCall_sound (callO_sound (up132 ks)) (q130j n ks.length ks cs (flatD ks) (oPf i n nilS) (oPl p) (.bool b)) ⟨⟨hsl, h2, hkl⟩, trivial⟩ rfl 8 [(7, 8)] rfl
      (obsP (is := [8]) (l := [(7, grD (upS ks))]) hc (.pf (.closed rfl)) .pl (.cons ⟨rfl, RO.grD (ds := upS ks)⟩ .nil)) .nil ?_
    exact hQ
  | cons x l =>
    refine pieceE hm pCall_sound (callO_sound (up132 ks)) (q130k n ks.length ks cs (flatD ks) (flatD (x :: l)) (oPf i n (sl 8 (x :: l).length)) (oPl p) (.bool b)) ⟨⟨hsl, h2, hkl⟩, trivial⟩ rfl 9 [(7, 9), (8, 8)] rfl
      (obsP (is := [9, 8]) (l := [(7, grD (upS ks)), (8, grD (x :: l))]) hc (.pf (.slice (i := 8) (j := 8) rfl)) .pl (.cons ⟨rfl, RO.grD (ds := upS ks)⟩ (.cons ⟨rfl, RO.grD (ds := x :: l)⟩ .nil))) .nil ?_
    exact hQ

theorem round_end {n i p k : Nat} {cs : List Value} {don ks : List (List Int)} {b : Bool} (hc : ∀ v ∈ cs, c2 v = true) (hd : don ≠ []) :
    Nrm Tryz.prog 7 (T130b k b) (HS n i cs don p (grD ks)) [] (mkT 35 [] jX) (HP n cs (oPf i n (sl 8 don.length)) (oPl p) 9 [(8, grD don)]) [] := by
  rw [HS_cons hd]
  refine fun B E a w hS => ?_
  obtain ⟨E2, h1, h2⟩ := nrm_drop 0 B E a w hS
  have := Nrm.mk (P := Tryz.prog) (n := 7) (m := 35) (k := []) (X := jX) (H := HP n cs (oPf i n (sl 8 don.length)) (oPl p) 9 [(7, grD ks), (8, grD don)]) (D := []) (os := (obT ++ [8]).zip (oP n cs (oPf i n (sl 8 don.length)) (oPl p) ++ [grD don]))
    (by intro q hq; simp [obT, oP] at hq; rcases hq with rfl | rfl | rfl | rfl | rfl | rfl | rfl | rfl <;> rfl) 9 [(8, 8)] (k2 := []) (D2 := []) rfl .nil
    (obsP (is := [8]) (l := [(8, grD don)]) hc (.pf (.slice (i := 8) (j := 8) rfl)) .pl (.cons ⟨rfl, RO.grD (ds := don)⟩ .nil)) .nil
  obtain ⟨E3, h3, h4⟩ := this B E2 a w h2
  exact ⟨E3, h1.trans h3, h4⟩

theorem does130p {ls : List (List Int)} {i : Nat} (h : ∀ d ∈ ls, d.length = 32) (h1 : 2 ≤ ls.length) (hb : ls.length ≤ 63) (hi : i < ls.length) :
    Does Tryz.prog 130 [yv, pt 4] (HP ls.length (flatD ls) (oPf i ls.length nilS) (oPl i) 7 []) (.tuple #[]) (HP ls.length (flatD ls) (oPf i ls.length (sl 8 (sibS (ls.length + 1) i (ls.map nodeS)).length)) (oPl (plS ls.length i (ls.map nodeS))) 9 [(8, grD (sibS (ls.length + 1) i (ls.map nodeS)))]) := by
  refine does_of_awp Tryz.func130 (c := codeOf Tryz.f130 []) rfl (awp_of_awn (n := 7) ?_ (Nat.le_refl _))
  have hpos := sibS_pos (q := ls.length) (p := i) (ls := ls.map nodeS) (by simpa using h1) (by simpa using hi) (by simp)
  have hsl := sibS_len (ls.length + 1) i (ls.map nodeS)
  have hs32 := sibS_32 (k := ls.length + 1) (p := i) (ls := ls.map nodeS) (fun d hd => by obtain ⟨x, _, rfl⟩ := List.mem_map.1 hd; exact nodeS_len _)
  generalize hn : ls.length = n at *
  generalize ht : sibS (n + 1) i (ls.map nodeS) = tot at *
  generalize hpl : plS n i (ls.map nodeS) = pl at *
  refine awn_seq (x := codeOf Tryz.f130 [0]) (y := codeOf Tryz.f130 [1]) ?_
  refine pieceT hm pCall_sound noOO_sound 0 (q130a n _ _ _) rfl trivial rfl ?_
  refine awn_cond (c := .tmp 8) (b := ((n : Int) == 0)) rfl rfl ?_
  rw [show ((n : Int) == 0) = false by simp; omega]
  refine awn_skip ?_
  have hz := zeros_flat n
  refine pieceS hm pCall_sound mkG_sound 0 (q130b n _ (flatD (List.replicate n zl)) _ _ _) rfl ⟨⟨by omega, by omega, by omega, by omega, by omega, rfl, by omega, by rw [hz]; rfl⟩, trivial⟩ rfl 8 [(7, 7)] rfl (obsP (is := [7]) (l := [(7, grD (List.replicate n zl))]) flatD_c2 (.pf (.closed rfl)) .pl (.cons ⟨rfl, RO.grD (ds := List.replicate n zl)⟩ .nil)) .nil ?_
  refine awn_seq (x := codeOf Tryz.f130 [1,1,0]) (y := codeOf Tryz.f130 [1,1,1]) ?_
  refine pieceT hm pCall_sound noOO_sound 0 (q130c n _ _ _ _) rfl trivial rfl ?_
  refine awn_block (c := codeOf Tryz.f130 [1,1,0,1,0]) (awn_loop (c := codeOf Tryz.f130 [1,1,0,1,0,0])
    (fun k T H D => ∃ j, j + k = n ∧ T = mkT 35 [(0, yv), (1, pt 4), (3, sl 7 n), (12, sl 0 n), (13, i64 (n : Int)), (14, i64 (j : Int))] jX ∧ H = HP n (flatD ls) (oPf i n nilS) (oPl i) 8 [(7, grD (curS ls j))] ∧ D = [])
    n ⟨_, _, _, .refl _ _ _ _ _, 0, by omega, rfl, by simp [curS, hn, grD], rfl⟩ ?_)
  rintro k T H D ⟨j, hk, rfl, rfl, rfl⟩
  refine pieceT hm pCall_sound noOO_sound 0 (r130d n _ _) rfl trivial rfl ?_
  refine awn_seq (x := codeOf Tryz.f130 [1,1,0,1,0,0,1,0]) (y := codeOf Tryz.f130 [1,1,0,1,0,0,1,1]) ?_
  refine awn_cond (c := .tmp 15) (b := decide ((j : Int) < (n : Int))) rfl rfl ?_
  cases k with
  | succ k =>
    rw [decide_eq_true (by omega)]
    refine awn_skip ?_
    obtain ⟨hl1, hl2⟩ := getD_32 h (i := j) (by omega)
    generalize ls.getD j [] = d at hl1 hl2
    have hr := q130e n (j : Int) (fn d) (fn (nodeS d)) (flatD ls) (flatD (curS ls j)) (oPf i n nilS) (oPl i) (.bool true)
    have hw := wrap_i1 (i := j) (by omega)
    have hst := curS_step hl2
    rw [show dgf (fn d) = d from dgf_of hl1, show dgf (fn (nodeS d)) = nodeS d from dgf_of (nodeS_len d), hw, Int.toNat_natCast, Nat.zero_add, hst] at hr
    have hld := flatD_at h hl2
    rw [Nat.zero_add] at hld
    have hcl : (flatD (curS ls j)).length = n * 32 := by
      rw [flatD_len (curS_32 ls j)]
      simp [curS, hn]
      omega
    refine pieceE hm pCall_sound (oo130_sound _ _) hr ⟨⟨by rw [bytes_len, nodeS_len], by rw [hcl]; omega, bytes_one'⟩, ⟨by omega, by omega⟩, ⟨hl1, rfl, rfl⟩, hld, ⟨by omega, by omega⟩, trivial⟩ rfl 8 [(7, 7)] rfl (obsP (is := [7]) (l := [(7, grD (curS ls (j + 1)))]) flatD_c2 (.pf (.closed rfl)) .pl (.cons ⟨rfl, RO.grD (ds := curS ls (j + 1))⟩ .nil)) .nil ?_
    intro T H D hN
    exact ⟨k, by omega, _, _, _, hN, j + 1, by omega, rfl, rfl, rfl⟩
  | zero =>
    rw [decide_eq_false (by omega)]
    refine awn_exit ?_
    have e0 : curS ls j = ls.map nodeS := by
      have : j = ls.length := by omega
      simp [curS, this]
    refine awn_nrm (nrm_drop 3) ?_
    rw [e0]
    have hln : (ls.map nodeS).length = n := by simpa using hn
    have hn32 : ∀ d ∈ ls.map nodeS, d.length = 32 := fun d hd => by obtain ⟨x, _, rfl⟩ := List.mem_map.1 hd; exact nodeS_len _
    refine awn_block (c := codeOf Tryz.f130 [1,1,1,0]) (awn_loop (c := codeOf Tryz.f130 [1,1,1,0,0])
      (fun m T H D => ∃ (ks don : List (List Int)) (p q : Nat), ks.length = m ∧ 1 ≤ ks.length ∧ ks.length ≤ 1000 ∧ (∀ d ∈ ks, d.length = 32) ∧ ks.length ≤ q + 1 ∧ p < 127 ∧ don ++ sibS (q + 1) p ks = tot ∧ plS q p ks = pl ∧ T = T130 ks.length ∧ H = HS n i (flatD ls) don p (grD ks) ∧ D = [])
      n ⟨_, _, _, .refl _ _ _ _ _, ls.map nodeS, [], i, n, hln, by omega, by omega, hn32, by omega, by omega, ht, hpl, by rw [hln]; rfl, rfl, rfl⟩ ?_)
    rintro m T H D ⟨ks, don, p, q, hm', hk1, hk2, hk32, hq, hp, htot, hpl', rfl, rfl, rfl⟩
    have htl : don.length ≤ tot.length := by rw [← htot]; simp
    refine awn_seq (x := codeOf Tryz.f130 [1,1,1,0,0,0]) (y := codeOf Tryz.f130 [1,1,1,0,0,1]) ?_
    have hd32 : ∀ d ∈ don, d.length = 32 := fun d hd => hs32 d (by rw [← htot]; exact List.mem_append_left _ hd)
    refine round_y flatD_c2 hk32 hd32 (by omega) hp hk2 ?_
    refine awn_cond (c := .tmp 32) (b := decide ((ks.length : Int) > 1)) rfl rfl ?_
    rw [sibS] at htot
    by_cases h2 : ks.length ≤ 1
    · rw [decide_eq_false (by omega)]
      rw [if_pos h2, List.append_nil] at htot
      have e2 : plS q p ks = p / 2 := by cases q with
        | zero => rfl
        | succ q => rw [plS, if_pos h2]
      rw [htot, ← hpl', e2]
      refine awn_nrm (round_end flatD_c2 (by intro e; rw [e] at hpos; simp at hpos)) ?_
      refine awn_exit ?_
      exact ⟨.inl rfl, rfl, rfl, rfl⟩
    · rw [decide_eq_true (by omega)]
      refine awn_skip ?_
      rw [if_neg h2, ← List.append_assoc] at htot
      refine round_up flatD_c2 hk32 (by omega) hk2 ?_
      intro T H D hN
      have hul := upS_len ks
      obtain ⟨q', rfl⟩ : ∃ q', q = q' + 1 := ⟨q - 1, by omega⟩
      rw [plS, if_neg h2] at hpl'
      exact ⟨(upS ks).length, by omega, _, _, _, hN, upS ks, don ++ sib1 p ks, p / 2, q', rfl, by omega, by omega, upS_32 hk32, by omega, by omega, htot, hpl', rfl, rfl, rfl⟩
end Go.Abs

namespace Go.Abs
open Go.Proofs
set_option maxRecDepth 1000000

/-- The way to a leaf. -/
def wayS (i : Nat) (ls : List (List Int)) : List (List Int) := sibS (ls.length + 1) i (ls.map nodeS)
theorem node32 {ls : List (List Int)} : ∀ d ∈ ls.map nodeS, d.length = 32 := fun d hd => by obtain ⟨x, _, rfl⟩ := List.mem_map.1 hd; exact nodeS_len _
theorem wayS_32 {i : Nat} {ls : List (List Int)} : ∀ d ∈ wayS i ls, d.length = 32 := sibS_32 node32
theorem wayS_len (i : Nat) (ls : List (List Int)) : (wayS i ls).length ≤ ls.length + 1 := sibS_len _ _ _
theorem wayS_pos {i : Nat} {ls : List (List Int)} (h : 2 ≤ ls.length) (hi : i < ls.length) : 0 < (wayS i ls).length := sibS_pos (by simpa using h) (by simpa using hi) (by simp)

theorem does41 {ls : List (List Int)} {i : Nat} (h : ∀ d ∈ ls, d.length = 32) (h1 : 2 ≤ ls.length) (hb : ls.length ≤ 63) (hi : i < ls.length) :
    Does Tryz.prog 41 [sl 0 ls.length, i64 (i : Int)] ⟨1, [(0, .ro (flatD ls))]⟩ (ctP (i : Int) (ls.length : Int) (sl 1 (wayS i ls).length)) ((⟨1, [(0, .ro (flatD ls))]⟩ : Heap).push (grD (wayS i ls))) := by
  refine ctx_of_awpM (ct := ctP (i : Int) (ls.length : Int)) (fun E s v' => ctP_inv _ _ E s v') (fun E s s' => ctP_mk _ _ E s s') (H := ⟨1, [(0, .ro (flatD ls))]⟩) Tryz.func41 (c := codeOf Tryz.f41 []) rfl flatD_c2 (awp_of_awn (n := 1) ?_ (Nat.le_refl _))
  have hd := does130p h h1 hb hi
  rw [show sibS (ls.length + 1) i (ls.map nodeS) = wayS i ls from rfl] at hd
  generalize hw : wayS i ls = way at *
  generalize hn : ls.length = n at *
  generalize hpl : plS n i (ls.map nodeS) = pl at *
  have hro : ∀ (σ : Nat → Option Nat), RO σ (.ro (flatD ls)) (.ro (flatD ls)) := fun σ => .ro (RV.all flatD_c2)
  have hi0 : ∀ (σ : Nat → Option Nat), RO σ (.cells [i64 0] 43) (.cells [i64 0] 43) := fun σ => .cells (.cons (.closed rfl) .nil)
  refine pieceS hm pCall_sound noOO_sound 1 (r41a (flatD ls) n i) rfl trivial rfl 3 [(1, 1), (2, 2)] (os2 := [(0, .ro (flatD ls)), (1, .cells [i64 0, i64 0, nilS] 29), (2, .cells [i64 0] 43)]) (D2 := D41) rfl
    (.cons ⟨rfl, hro _⟩ (.cons ⟨rfl, .cells (.cons (.closed rfl) (.cons (.closed rfl) (.cons (.closed rfl) .nil)))⟩ (.cons ⟨rfl, hi0 _⟩ .nil))) (.cons ⟨rfl, .cons (.ptr rfl) (.cons (.ptr rfl) .nil)⟩ .nil) ?_
  refine awn_seq (x := codeOf Tryz.f41 [1,1,0]) (y := codeOf Tryz.f41 [1,1,1]) ?_
  refine pieceT hm pCall_sound noOO_sound 0 (r41b n i _ _) rfl trivial rfl ?_
  refine awn_cond (c := .tmp 12) (b := decide ((n : Int) > 4096)) rfl rfl ?_
  rw [decide_eq_false (by omega)]
  refine awn_skip ?_
  refine awn_seq (x := codeOf Tryz.f41 [1,1,1,0]) (y := codeOf Tryz.f41 [1,1,1,1]) ?_
  refine pieceT hm pCall_sound (orO_sound forceO_sound forceO_sound) 0 (r41c n i _ _ _) rfl ⟨by rw [decide_eq_false (by omega)], rfl, trivial⟩ rfl ?_
  refine awn_cond (c := .tmp 21) (b := false) rfl rfl ?_
  refine awn_skip ?_
  refine pieceS hm pCall_sound noOO_sound 1 (r41d n i _ (flatD ls)) rfl trivial rfl 4 [(1, 1), (2, 2), (3, 3)] (os2 := [(0, .ro (flatD ls)), (1, .cells (pf i n nilS) 29), (2, .cells [i64 0] 43), (3, .cells [i64 (i : Int)] 3)]) (D2 := D41) rfl
    (.cons ⟨rfl, hro _⟩ (.cons ⟨rfl, .pf (.closed rfl)⟩ (.cons ⟨rfl, hi0 _⟩ (.cons ⟨rfl, .pl⟩ .nil)))) (.cons ⟨rfl, .cons (.ptr rfl) (.cons (.ptr rfl) .nil)⟩ .nil) ?_
  refine awn_seq (x := codeOf Tryz.f41 [1,1,1,1,1,1,0]) (y := codeOf Tryz.f41 [1,1,1,1,1,1,1]) ?_
  refine pieceT hm pCall_sound (callO_sound (inC_sound hm pCall_sound noOO_sound)) 0 (r41e n i (flatD ls)) rfl ⟨trivial, trivial⟩ rfl ?_
  refine awn_block (c := codeOf Tryz.f41 [1,1,1,1,1,1,0,1,0]) ?_
  rw [c41_eq']
  have hget : ∀ x, (HP n (flatD ls) (oPf i n nilS) (oPl i) 7 []).get x = (((⟨5, [(4, .cells [sl 0 n] 27), (0, .ro (flatD ls)), (1, .cells (pf i n nilS) 29), (2, .cells [i64 0] 43), (3, .cells [i64 (i : Int)] 3)]⟩ : Heap).push .df).push (.lp (T41 n) c41 false)).get x := by
    intro x
    simp only [HP, mkH, Heap.push, Heap.get, List.append_nil, List.cons_append, List.nil_append, look_cons]
    repeat' split
    all_goals first | rfl | omega
  have hd2 := Does.ext (H0 := ((⟨5, [(4, .cells [sl 0 n] 27), (0, .ro (flatD ls)), (1, .cells (pf i n nilS) 29), (2, .cells [i64 0] 43), (3, .cells [i64 (i : Int)] 3)]⟩ : Heap).push .df).push (.lp (T41 n) c41 false)) hd (Nat.le_refl _) hget
  rw [c41_eq] at hd2
  refine awn_rangeFunc (gf := 130) (caps := #[pt 4]) rfl rfl (by kernel_rfl) hd2 (by rw [HP, c41_eq]; rfl) ?_
  refine pieceM pCall_sound noOO_sound (r41f n i way.length (flatD ls) (flatD way) (oPl pl)) trivial ?_
  intro e T H D he hres hok hnx hg
  cases tag1 he
  refine ⟨.inr rfl, hok, _, hres, ⟨8, rfl, by show 1 ≤ 8; omega, hg (8, _) (.tail _ (.head _))⟩, ⟨by rw [hnx]; show 1 ≤ 9; omega, fun id hid => ?_⟩⟩
  have : id = 0 := by
    have : id < 1 := hid
    omega
  subst this
  exact hg (0, _) (.head _)

/-- Proofs by contract. -/
def prG (ls : List (List Int)) (i : Nat) (way : List (List Int)) : List Value → Heap → Option CallR := fun args H => match args with
  | [.slice (some ⟨id, off, none⟩) n _, .int .i64 z] => (match H.row id with
    | some cs => some (.eff (ctP z (n : Int) (sl H.next way.length)) (H.push (grD way)) (SliC ls n off cs ∧ 2 ≤ n ∧ n ≤ 63 ∧ z = (i : Int) ∧ i < n ∧ way = wayS i ls))
    | none => none)
  | _ => none
theorem prG_key (ls : List (List Int)) (i : Nat) (way : List (List Int)) {k : FuncId} (hk : (∀ d ∈ ls, d.length = 32) → 2 ≤ ls.length → ls.length ≤ 63 → i < ls.length → Does Tryz.prog k [sl 0 ls.length, i64 (i : Int)] ⟨1, [(0, .ro (flatD ls))]⟩ (ctP (i : Int) (ls.length : Int) (sl 1 (wayS i ls).length)) ((⟨1, [(0, .ro (flatD ls))]⟩ : Heap).push (grD (wayS i ls)))) :
    SoundC Tryz.prog (oneC k (prG ls i way)) := oneC_sound fun args H r h => by
  unfold prG at h
  split at h
  case h_2 => cases h
  rename_i id off n c z
  split at h
  case h_2 => cases h
  rename_i cs hr
  cases h
  rintro ⟨⟨g1, rfl, g3, g4⟩, g5, g6, rfl, g7, rfl⟩
  exact frame_ctx (ct := ctP (i : Int) (ls.length : Int)) (fun E s v' => ctP_inv _ _ E s v') (fun E s s' => ctP_mk _ _ E s s') (hk g1 g5 g6 g7) rfl flatD_c2 (imp_slice (P := Tryz.prog) (H := H) (id := id) (off := off) (c := c) (n := ls.length) (m := ls.length * 32) (pre := []) (post := [i64 (i : Int)]) rfl rfl hr g4 g3 flatD_c2)
theorem pr41 (ls : List (List Int)) (i : Nat) (way : List (List Int)) : SoundC Tryz.prog (oneC 41 (prG ls i way)) := prG_key ls i way fun h h1 h2 h3 => does41 h h1 h2 h3
end Go.Abs

namespace Go.Abs
open Go.Proofs
set_option maxRecDepth 1000000

abbrev z29 : AObj := .cells [i64 0, i64 0, nilS] 29
theorem r42a (cs : List Value) (n i : Nat) : (ex3 Tryz.prog pCall noOO 60 (pre 0 (codeOf Tryz.f42 [])) ⟨⟨[sl 0 n, i64 (i : Int)] ++ List.replicate 74 undef, ⟨1, [(0, .ro cs)]⟩, []⟩, True⟩).map (obs3 [0,1,4,5] [0,1])
  = some (⟨0, [sl 0 n, i64 (i : Int), pt 1, i64 0], 76, 2, [.ro cs, z29], []⟩, True) := by kernel_rfl
theorem r42b (n i : Nat) (H : Heap) : (ex3 Tryz.prog pCall noOO 60 (pre 0 (codeOf Tryz.f42 [1,0])) ⟨⟨mkT 76 [(0, sl 0 n), (1, i64 (i : Int)), (4, pt 1), (5, i64 0)] jX, H, []⟩, True⟩).map (obsQ [0,1,4,5,11])
  = some (⟨0, [sl 0 n, i64 (i : Int), pt 1, i64 0, .bool (decide ((n : Int) > 4096))], 76, H, []⟩, True) := by kernel_rfl
theorem r42c (n i : Nat) (b : Value) (H : Heap) : (ex3 Tryz.prog pCall (orO (forceO Tryz.prog 14 (.bool false)) (forceO Tryz.prog 19 (.bool false))) 60 (pre 0 (codeOf Tryz.f42 [1,1,0])) ⟨⟨mkT 76 [(0, sl 0 n), (1, i64 (i : Int)), (4, pt 1), (5, i64 0), (11, b)] jX, H, []⟩, True⟩).map (obsQ [0,1,4,5,20])
  = some (⟨0, [sl 0 n, i64 (i : Int), pt 1, i64 0, .bool false], 76, H, []⟩, some (Value.bool (decide ((i : Int) ≥ (n : Int)))) = some (Value.bool false) ∧ some (Value.bool false) = some (Value.bool false) ∧ True) := by kernel_rfl
theorem r42d (n i : Nat) (b : Value) (cs : List Value) : (ex3 Tryz.prog pCall noOO 60 (pre 1 (codeOf Tryz.f42 [1,1,1])) ⟨⟨mkT 76 [(0, sl 0 n), (1, i64 (i : Int)), (4, pt 1), (5, i64 0), (20, b)] jX, mkH 2 [(0, .ro cs), (1, z29)] [], []⟩, True⟩).map (obs3 [0,1,4,5,6,7] [0,1,2])
  = some (⟨0, [sl 0 n, i64 (i : Int), pt 1, i64 0, pt 2, nilS], 76, 3, [.ro cs, z29, oPf i n nilS], []⟩, True) := by kernel_rfl
abbrev T42 (n p : Nat) (lv : Value) : List Value := mkT 76 [(0, sl 0 n), (1, i64 (p : Int)), (4, pt 1), (5, i64 0), (6, pt 2), (7, lv)] jX
abbrev T42i (n p : Nat) (lv : Value) (i : Nat) : List Value := mkT 76 [(0, sl 0 n), (1, i64 (p : Int)), (4, pt 1), (5, i64 0), (6, pt 2), (7, lv), (8, i64 (i : Int))] jX
theorem r42e (n p : Nat) (v : Value) (H : Heap) : (ex3 Tryz.prog pCall noOO 60 (pre 0 (codeOf Tryz.f42 [1,1,1,1,1,0])) ⟨⟨T42 n p v, H, []⟩, True⟩).map (obsQ [0,1,4,5,6,7,8])
  = some (⟨0, [sl 0 n, i64 (p : Int), pt 1, i64 0, pt 2, v, i64 ((0 : Nat) : Int)], 76, H, []⟩, True) := by kernel_rfl
theorem r42f (n p : Nat) (v : Value) (i : Nat) (H : Heap) : (ex3 Tryz.prog pCall noOO 60 (pre 0 (codeOf Tryz.f42 [1,1,1,1,1,0,1,0,0,0])) ⟨⟨T42i n p v i, H, []⟩, True⟩).map (obsQ [0,1,4,5,6,7,8,29])
  = some (⟨0, [sl 0 n, i64 (p : Int), pt 1, i64 0, pt 2, v, i64 (i : Int), .bool (decide ((i : Int) < (n : Int)))], 76, H, []⟩, True) := by kernel_rfl
noncomputable def oo42 (f g : Nat → Int) : OpO := orO (idxO Tryz.prog 35) (orO (ldO Tryz.prog 36 (dig (dgf f))) (orO (callO Tryz.prog (oneC 80 (nd1 (dgf f) (dgf g)))) (appO Tryz.prog 39)))
theorem oo42_sound (f g : Nat → Int) : SoundO Tryz.prog (oo42 f g) := orO_sound idxO_sound (orO_sound ldO_sound (orO_sound (callO_sound (nd80 _ _)) appO_sound))
theorem r42g (n p : Nat) (i : Int) (f g : Nat → Int) (b : Value) (cs : List Value) (o1 o2 : AObj) : (ex3 Tryz.prog pCall (oo42 f g) 60 (codeOf Tryz.f42 [1,1,1,1,1,0,1,0,0,1]) ⟨⟨mkT 76 [(0, sl 0 n), (1, i64 (p : Int)), (4, pt 1), (5, i64 0), (6, pt 2), (7, nilS), (8, i64 i), (29, b)] jX, mkH 3 [(0, .ro cs), (1, o1), (2, o2)] [], []⟩, True⟩).map (obs3 [0,1,4,5,6,7,8] [0,1,2,4])
  = some (⟨0, [sl 0 n, i64 (p : Int), pt 1, i64 0, pt 2, sl 4 1, i64 (IntKind.i64.wrap (i + 1))], 76, 5, [.ro cs, o1, o2, .grow (bytes (dgf g)) 26], []⟩,
    ((dgf f).length = 32 ∧ dig (dgf f) = dig (dgf f) ∧ dgf g = nodeS (dgf f)) ∧ LdC Tryz.prog 26 (some cs) (0 + i.toNat * 32) (dig (dgf f)) ∧ ((0 : Int) ≤ i ∧ i < (n : Int)) ∧ True) := by kernel_rfl
theorem r42h (n p j : Nat) (i : Int) (f g : Nat → Int) (b : Value) (cs ds : List Value) (o1 o2 : AObj) : (ex3 Tryz.prog pCall (oo42 f g) 60 (codeOf Tryz.f42 [1,1,1,1,1,0,1,0,0,1]) ⟨⟨mkT 76 [(0, sl 0 n), (1, i64 (p : Int)), (4, pt 1), (5, i64 0), (6, pt 2), (7, sl 3 j), (8, i64 i), (29, b)] jX, mkH 4 [(0, .ro cs), (1, o1), (2, o2), (3, .grow ds 26)] [], []⟩, True⟩).map (obs3 [0,1,4,5,6,7,8] [0,1,2,5])
  = some (⟨0, [sl 0 n, i64 (p : Int), pt 1, i64 0, pt 2, sl 5 (j + 1), i64 (IntKind.i64.wrap (i + 1))], 76, 6, [.ro cs, o1, o2, .grow (ds.take (j * (31 + 1)) ++ bytes (dgf g)) 26], []⟩,
    AppC 32 31 32 26 26 0 capG j 1 0 ds (bytes (dgf g)) ∧ ((dgf f).length = 32 ∧ dig (dgf f) = dig (dgf f) ∧ dgf g = nodeS (dgf f)) ∧ LdC Tryz.prog 26 (some cs) (0 + i.toNat * 32) (dig (dgf f)) ∧ ((0 : Int) ≤ i ∧ i < (n : Int)) ∧ True) := by kernel_rfl
theorem r42i (n p k : Nat) (H : Heap) : (ex3 Tryz.prog pCall noOO 60 (pre 0 (codeOf Tryz.f42 [1,1,1,1,1,1,0,0,0,0])) ⟨⟨T42 n p (sl 3 k), H, []⟩, True⟩).map (obsQ [0,1,4,5,6,7,42])
  = some (⟨0, [sl 0 n, i64 (p : Int), pt 1, i64 0, pt 2, sl 3 k, .bool (decide ((k : Int) > 1))], 76, H, []⟩, True) := by kernel_rfl
noncomputable def oo42a (x : Nat) (f : Nat → Int) (b1 b2 : Bool) (ks : List (List Int)) : OpO := orO (forceO Tryz.prog 45 (.bool b1)) (orO (forceO Tryz.prog 60 (.bool b2)) (orO (forceO Tryz.prog 50 (i64 (x : Int))) (orO (idxO Tryz.prog 51) (orO (ldO Tryz.prog 52 (dig (dgf f))) (orO (appO Tryz.prog 54) (orO (forceO Tryz.prog 65 (i64 (x : Int))) (orO (idxO Tryz.prog 66) (orO (ldO Tryz.prog 67 (dig (dgf f))) (orO (appO Tryz.prog 69) (callO Tryz.prog (oneC 81 (upG ks))))))))))))
theorem oo42a_sound (x : Nat) (f : Nat → Int) (b1 b2 : Bool) (ks : List (List Int)) : SoundO Tryz.prog (oo42a x f b1 b2 ks) := orO_sound forceO_sound (orO_sound forceO_sound (orO_sound forceO_sound (orO_sound idxO_sound (orO_sound ldO_sound (orO_sound appO_sound (orO_sound forceO_sound (orO_sound idxO_sound (orO_sound ldO_sound (orO_sound appO_sound (callO_sound (up81 ks)))))))))))
abbrev T42b (n p k : Nat) (b : Value) : List Value := mkT 76 [(0, sl 0 n), (1, i64 (p : Int)), (4, pt 1), (5, i64 0), (6, pt 2), (7, sl 3 k), (42, b)] jX
abbrev O42 (p x : Nat) : Prop := some (i64 (IntKind.i64.wrap ((p : Int) - 1))) = some (i64 (x : Int)) ∧ some (Value.bool ((p : Int).tmod 2 == 1)) = some (Value.bool true) ∧ True
abbrev E42 (p x k : Nat) : Prop := some (i64 (IntKind.i64.wrap ((p : Int) + 1))) = some (i64 (x : Int)) ∧ some (Value.bool (decide (IntKind.i64.wrap ((p : Int) + 1) < (k : Int)))) = some (Value.bool true) ∧ some (Value.bool ((p : Int).tmod 2 == 1)) = some (Value.bool false) ∧ True
abbrev X42 (p k : Nat) : Prop := some (Value.bool (decide (IntKind.i64.wrap ((p : Int) + 1) < (k : Int)))) = some (Value.bool false) ∧ some (Value.bool ((p : Int).tmod 2 == 1)) = some (Value.bool false) ∧ True
abbrev pw (p : Nat) : Value := i64 (IntKind.i64.wrap ((p : Int).tdiv 2))
theorem r42j (n i p k x : Nat) (f : Nat → Int) (ks : List (List Int)) (b : Value) (cs zs : List Value) (o1 : AObj) : (ex3 Tryz.prog pCall (oo42a x f true true ks) 60 (codeOf Tryz.f42 [1,1,1,1,1,1,0,0,0,1]) ⟨⟨T42b n p k b, mkH 4 [(0, .ro cs), (1, o1), (2, oPf i n nilS), (3, .grow zs 26)] [], []⟩, True⟩).map (obs3 [0,1,4,5,6,7] [0,1,2,6,5])
  = some (⟨0, [sl 0 n, pw p, pt 1, i64 0, pt 2, sl 6 (upS ks).length], 76, 7, [.ro cs, o1, oPf i n (sl 5 1), grD (upS ks), .grow (bytes (dgf f)) 26], []⟩,
    (SliC ks k 0 zs ∧ 2 ≤ k ∧ k ≤ 1000) ∧ some nilS = some nilS ∧ LdC Tryz.prog 26 (some zs) (0 + x * 32) (dig (dgf f)) ∧ ((0 : Int) ≤ (x : Int) ∧ (x : Int) < (k : Int)) ∧ O42 p x) := by kernel_rfl
theorem r42k (n i p k x j : Nat) (f : Nat → Int) (ks : List (List Int)) (b : Value) (cs zs ds : List Value) (o1 : AObj) : (ex3 Tryz.prog pCall (oo42a x f true true ks) 60 (codeOf Tryz.f42 [1,1,1,1,1,1,0,0,0,1]) ⟨⟨T42b n p k b, mkH 5 [(0, .ro cs), (1, o1), (2, oPf i n (sl 4 j)), (3, .grow zs 26), (4, .grow ds 26)] [], []⟩, True⟩).map (obs3 [0,1,4,5,6,7] [0,1,2,7,6])
  = some (⟨0, [sl 0 n, pw p, pt 1, i64 0, pt 2, sl 7 (upS ks).length], 76, 8, [.ro cs, o1, oPf i n (sl 6 (j + 1)), grD (upS ks), .grow (ds.take (j * (31 + 1)) ++ bytes (dgf f)) 26], []⟩,
    (SliC ks k 0 zs ∧ 2 ≤ k ∧ k ≤ 1000) ∧ AppC 32 31 32 26 26 0 capG j 1 0 ds (bytes (dgf f)) ∧ some (sl 4 j) = some (sl 4 j) ∧ LdC Tryz.prog 26 (some zs) (0 + x * 32) (dig (dgf f)) ∧ ((0 : Int) ≤ (x : Int) ∧ (x : Int) < (k : Int)) ∧ O42 p x) := by kernel_rfl
theorem r42l (n i p k x : Nat) (f : Nat → Int) (ks : List (List Int)) (b : Value) (cs zs : List Value) (o1 : AObj) : (ex3 Tryz.prog pCall (oo42a x f false true ks) 60 (codeOf Tryz.f42 [1,1,1,1,1,1,0,0,0,1]) ⟨⟨T42b n p k b, mkH 4 [(0, .ro cs), (1, o1), (2, oPf i n nilS), (3, .grow zs 26)] [], []⟩, True⟩).map (obs3 [0,1,4,5,6,7] [0,1,2,6,5])
  = some (⟨0, [sl 0 n, pw p, pt 1, i64 0, pt 2, sl 6 (upS ks).length], 76, 7, [.ro cs, o1, oPf i n (sl 5 1), grD (upS ks), .grow (bytes (dgf f)) 26], []⟩,
    (SliC ks k 0 zs ∧ 2 ≤ k ∧ k ≤ 1000) ∧ some nilS = some nilS ∧ LdC Tryz.prog 26 (some zs) (0 + x * 32) (dig (dgf f)) ∧ ((0 : Int) ≤ (x : Int) ∧ (x : Int) < (k : Int)) ∧ E42 p x k) := by kernel_rfl
theorem r42m (n i p k x j : Nat) (f : Nat → Int) (ks : List (List Int)) (b : Value) (cs zs ds : List Value) (o1 : AObj) : (ex3 Tryz.prog pCall (oo42a x f false true ks) 60 (codeOf Tryz.f42 [1,1,1,1,1,1,0,0,0,1]) ⟨⟨T42b n p k b, mkH 5 [(0, .ro cs), (1, o1), (2, oPf i n (sl 4 j)), (3, .grow zs 26), (4, .grow ds 26)] [], []⟩, True⟩).map (obs3 [0,1,4,5,6,7] [0,1,2,7,6])
  = some (⟨0, [sl 0 n, pw p, pt 1, i64 0, pt 2, sl 7 (upS ks).length], 76, 8, [.ro cs, o1, oPf i n (sl 6 (j + 1)), grD (upS ks), .grow (ds.take (j * (31 + 1)) ++ bytes (dgf f)) 26], []⟩,
    (SliC ks k 0 zs ∧ 2 ≤ k ∧ k ≤ 1000) ∧ AppC 32 31 32 26 26 0 capG j 1 0 ds (bytes (dgf f)) ∧ some (sl 4 j) = some (sl 4 j) ∧ LdC Tryz.prog 26 (some zs) (0 + x * 32) (dig (dgf f)) ∧ ((0 : Int) ≤ (x : Int) ∧ (x : Int) < (k : Int)) ∧ E42 p x k) := by kernel_rfl
theorem r42n (n p k : Nat) (ks : List (List Int)) (b : Value) (cs zs : List Value) (o1 o2 : AObj) : (ex3 Tryz.prog pCall (oo42a 0 (fun _ => 0) false false ks) 60 (codeOf Tryz.f42 [1,1,1,1,1,1,0,0,0,1]) ⟨⟨T42b n p k b, mkH 4 [(0, .ro cs), (1, o1), (2, o2), (3, .grow zs 26)] [], []⟩, True⟩).map (obs3 [0,1,4,5,6,7] [0,1,2,4])
  = some (⟨0, [sl 0 n, pw p, pt 1, i64 0, pt 2, sl 4 (upS ks).length], 76, 5, [.ro cs, o1, o2, grD (upS ks)], []⟩, (SliC ks k 0 zs ∧ 2 ≤ k ∧ k ≤ 1000) ∧ X42 p k) := by kernel_rfl
theorem r42o (n p k : Nat) (ks : List (List Int)) (b : Value) (cs zs : List Value) (o1 o2 o4 : AObj) : (ex3 Tryz.prog pCall (oo42a 0 (fun _ => 0) false false ks) 60 (codeOf Tryz.f42 [1,1,1,1,1,1,0,0,0,1]) ⟨⟨T42b n p k b, mkH 5 [(0, .ro cs), (1, o1), (2, o2), (3, .grow zs 26), (4, o4)] [], []⟩, True⟩).map (obs3 [0,1,4,5,6,7] [0,1,2,5,4])
  = some (⟨0, [sl 0 n, pw p, pt 1, i64 0, pt 2, sl 5 (upS ks).length], 76, 6, [.ro cs, o1, o2, grD (upS ks), o4], []⟩, (SliC ks k 0 zs ∧ 2 ≤ k ∧ k ≤ 1000) ∧ X42 p k) := by kernel_rfl
theorem r42p (n i p k j : Nat) (b : Value) (cs zs ds : List Value) : (ex3 Tryz.prog pCall noOO 60 (codeOf Tryz.f42 [1,1,1,1,1,1,1]) ⟨⟨T42b n p k b, mkH 5 [(0, .ro cs), (1, z29), (2, oPf i n (sl 4 j)), (3, .grow zs 26), (4, .grow ds 26)] [], []⟩, True⟩).map (fin3 Tryz.prog Tryz.f42 [0,4])
  = some (⟨1, some (ctP (i : Int) (n : Int) (sl 4 j)), 5, [.ro cs, .grow ds 26], []⟩, True) := by kernel_rfl

theorem sib_cases {p k : Nat} (hp : p < k) (hk : k ≤ 1000) : (xo p < k ∧ O42 p (xo p)) ∨ (xo p < k ∧ E42 p (xo p) k) ∨ (¬ xo p < k ∧ X42 p k) := by
  have hw : IntKind.i64.wrap ((p : Int) + 1) = (p : Int) + 1 := wrapI (by omega) (by omega)
  have hw2 : IntKind.i64.wrap ((p : Int) - 1) = (p : Int) - 1 := wrapI (by omega) (by omega)
  have ht : (p : Int).tmod 2 = ((p % 2 : Nat) : Int) := by rw [Int.tmod_eq_emod_of_nonneg (by omega)]; rfl
  by_cases h : p % 2 = 0
  · have hx : xo p = p + 1 := by unfold xo; rw [if_pos h]
    have hm2 : ((p : Int).tmod 2 == 1) = false := by rw [ht, h]; rfl
    rw [hx]
    by_cases h2 : p + 1 < k
    · exact .inr (.inl ⟨h2, by rw [hw]; rfl, by rw [hw, decide_eq_true (by omega)], by rw [hm2], trivial⟩)
    · exact .inr (.inr ⟨h2, by rw [hw, decide_eq_false (by omega)], by rw [hm2], trivial⟩)
  · have hx : xo p = p - 1 := by unfold xo; rw [if_neg h]
    have hm2 : ((p : Int).tmod 2 == 1) = true := by rw [ht, show p % 2 = 1 by omega]; rfl
    rw [hx]
    exact .inl ⟨by omega, by rw [hw2]; congr 2; omega, by rw [hm2], trivial⟩

/-- The heap between two rounds. -/
def HS2 (n i : Nat) (cs : List Value) (don : List (List Int)) (lv : AObj) : Heap :=
  match don with
  | [] => mkH 4 [(0, .ro cs), (1, z29), (2, oPf i n nilS), (3, lv)] []
  | d :: l => mkH 5 [(0, .ro cs), (1, z29), (2, oPf i n (sl 4 (d :: l).length)), (3, lv), (4, grD (d :: l))] []
theorem HS2_cons {n i : Nat} {cs : List Value} {don : List (List Int)} {lv : AObj} (h : don ≠ []) : HS2 n i cs don lv = mkH 5 [(0, .ro cs), (1, z29), (2, oPf i n (sl 4 don.length)), (3, lv), (4, grD don)] [] := by
  cases don with
  | nil => exact absurd rfl h
  | cons d l => rfl

theorem RO.z29 {σ : Nat → Option Nat} : RO σ z29 z29 := .cells (.cons (.closed rfl) (.cons (.closed rfl) (.cons (.closed rfl) .nil)))

theorem round42 {n i p : Nat} {Q : APost} {ls don ks : List (List Int)} {b : Value} (hk : ∀ d ∈ ks, d.length = 32) (hd : ∀ d ∈ don, d.length = 32) (hdl : don.length ≤ 1000) (hp : p < ks.length) (hp2 : p < 127) (h2 : 2 ≤ ks.length) (hkl : ks.length ≤ 1000)
    (hQ : ∀ T H D, Nrm Tryz.prog 1 T H D (T42 n (p / 2) (sl 3 (upS ks).length)) (HS2 n i (flatD ls) (don ++ sib1 p ks) (grD (upS ks))) [] → Q .normal T H D) :
    Awn Tryz.prog 1 (codeOf Tryz.f42 [1,1,1,1,1,1,0,0,0,1]) Q (T42b n p ks.length b) (HS2 n i (flatD ls) don (grD ks)) [] := by
  have hro : ∀ (σ : Nat → Option Nat), RO σ (.ro (flatD ls)) (.ro (flatD ls)) := fun σ => .ro (RV.all flatD_c2)
  have hh := pl_half (p := p) (by omega)
  have hsl : SliC ks ks.length 0 (flatD ks) := ⟨hk, rfl, by rw [flatD_len hk]; omega, by rw [List.drop_zero, ← flatD_len hk, List.take_length]⟩
  have hup : SliC ks ks.length 0 (flatD ks) ∧ 2 ≤ ks.length ∧ ks.length ≤ 1000 := ⟨hsl, h2, hkl⟩
  have some_sib : xo p < ks.length → ∀ (b1 : Bool) (L : Prop), L → 
     (∀ d : List Int, d.length = 32 → (ex3 Tryz.prog pCall (oo42a (xo p) (fn d) b1 true ks) 60 (codeOf Tryz.f42 [1,1,1,1,1,1,0,0,0,1]) ⟨⟨T42b n p ks.length b, mkH 4 [(0, .ro (flatD ls)), (1, z29), (2, oPf i n nilS), (3, .grow (flatD ks) 26)] [], []⟩, True⟩).map (obs3 [0,1,4,5,6,7] [0,1,2,6,5])
  = some (⟨0, [sl 0 n, pw p, pt 1, i64 0, pt 2, sl 6 (upS ks).length], 76, 7, [.ro (flatD ls), z29, oPf i n (sl 5 1), grD (upS ks), .grow (bytes (dgf (fn d))) 26], []⟩,
    (SliC ks ks.length 0 (flatD ks) ∧ 2 ≤ ks.length ∧ ks.length ≤ 1000) ∧ some nilS = some nilS ∧ LdC Tryz.prog 26 (some (flatD ks)) (0 + xo p * 32) (dig (dgf (fn d))) ∧ ((0 : Int) ≤ (xo p : Int) ∧ (xo p : Int) < (ks.length : Int)) ∧ L)) →
     (∀ d : List Int, d.length = 32 → (ex3 Tryz.prog pCall (oo42a (xo p) (fn d) b1 true ks) 60 (codeOf Tryz.f42 [1,1,1,1,1,1,0,0,0,1]) ⟨⟨T42b n p ks.length b, mkH 5 [(0, .ro (flatD ls)), (1, z29), (2, oPf i n (sl 4 don.length)), (3, .grow (flatD ks) 26), (4, .grow (flatD don) 26)] [], []⟩, True⟩).map (obs3 [0,1,4,5,6,7] [0,1,2,7,6])
  = some (⟨0, [sl 0 n, pw p, pt 1, i64 0, pt 2, sl 7 (upS ks).length], 76, 8, [.ro (flatD ls), z29, oPf i n (sl 6 (don.length + 1)), grD (upS ks), .grow ((flatD don).take (don.length * (31 + 1)) ++ bytes (dgf (fn d))) 26], []⟩,
    (SliC ks ks.length 0 (flatD ks) ∧ 2 ≤ ks.length ∧ ks.length ≤ 1000) ∧ AppC 32 31 32 26 26 0 capG don.length 1 0 (flatD don) (bytes (dgf (fn d))) ∧ some (sl 4 don.length) = some (sl 4 don.length) ∧ LdC Tryz.prog 26 (some (flatD ks)) (0 + xo p * 32) (dig (dgf (fn d))) ∧ ((0 : Int) ≤ (xo p : Int) ∧ (xo p : Int) < (ks.length : Int)) ∧ L)) →
     Awn Tryz.prog 1 (codeOf Tryz.f42 [1,1,1,1,1,1,0,0,0,1]) Q (T42b n p ks.length b) (HS2 n i (flatD ls) don (grD ks)) [] := by
    intro hx b1 L hL hA hB
    obtain ⟨hl1, hl2⟩ := getD_32 hk (i := xo p) hx
    have e1 : sib1 p ks = [ks.getD (xo p) []] := by unfold sib1; rw [if_pos hx]
    rw [e1] at hQ
    generalize ks.getD (xo p) [] = d at *
    have hld := flatD_at hk hl2
    have hdf : dgf (fn d) = d := dgf_of hl1
    cases don with
    | nil =>
      have hr := hA d hl1
      rw [hdf, pw, hh] at hr
      refine pieceE hm pCall_sound (oo42a_sound _ _ _ _ _) hr ⟨hup, rfl, hld, ⟨by omega, by omega⟩, hL⟩ rfl 5 [(1, 1), (2, 2), (3, 6), (4, 5)] (os2 := [(0, .ro (flatD ls)), (1, z29), (2, oPf i n (sl 4 1)), (3, grD (upS ks)), (4, grD [d])]) rfl
        (.cons ⟨rfl, hro _⟩ (.cons ⟨rfl, .z29⟩ (.cons ⟨rfl, .pf (.slice (i := 5) (j := 4) rfl)⟩ (.cons ⟨rfl, RO.grD⟩ (.cons ⟨rfl, ?_⟩ .nil))))) .nil ?_
      · rw [show grD [d] = .grow (bytes d) 26 by rw [grD]; simp [flatD]]
        exact .grow (RV.all bytes_c2)
      exact hQ
    | cons x l =>
      have hr := hB d hl1
      rw [hdf, pw, hh, take_flatD hd] at hr
      have ha := appD (f := fn d) hd (by omega)
      rw [hdf] at ha
      refine pieceE hm pCall_sound (oo42a_sound _ _ _ _ _) hr ⟨hup, ha, rfl, hld, ⟨by omega, by omega⟩, hL⟩ rfl 5 [(1, 1), (2, 2), (3, 7), (4, 6)] (os2 := [(0, .ro (flatD ls)), (1, z29), (2, oPf i n (sl 4 ((x :: l).length + 1))), (3, grD (upS ks)), (4, grD (x :: l ++ [d]))]) rfl
        (.cons ⟨rfl, hro _⟩ (.cons ⟨rfl, .z29⟩ (.cons ⟨rfl, .pf (.slice (i := 6) (j := 4) rfl)⟩ (.cons ⟨rfl, RO.grD⟩ (.cons ⟨rfl, RO.grD⟩ .nil))))) .nil ?_
      rw [HS2_cons (by simp), show (x :: l ++ [d]).length = (x :: l).length + 1 by simp] at hQ
      exact hQ
  rcases sib_cases hp hkl with ⟨hx, hL⟩ | ⟨hx, hL⟩ | ⟨hx, hL⟩
  · exact some_sib hx true _ hL (fun d _ => r42j n i p ks.length (xo p) (fn d) ks b _ _ _) (fun d _ => r42k n i p ks.length (xo p) don.length (fn d) ks b _ _ _ _)
  · exact some_sib hx false _ hL (fun d _ => r42l n i p ks.length (xo p) (fn d) ks b _ _ _) (fun d _ => r42m n i p ks.length (xo p) don.length (fn d) ks b _ _ _ _)
  · have e1 : sib1 p ks = [] := by unfold sib1; rw [if_neg hx]
    rw [e1, List.append_nil] at hQ
    cases don with
    | nil =>
      have hr := r42n n p ks.length ks b (flatD ls) (flatD ks) z29 (oPf i n nilS)
      rw [pw, hh] at hr
      refine pieceE hm pCall_sound (oo42a_sound _ _ _ _ _) hr ⟨hup, hL⟩ rfl 4 [(1, 1), (2, 2), (3, 4)] (os2 := [(0, .ro (flatD ls)), (1, z29), (2, oPf i n nilS), (3, grD (upS ks))]) rfl
        (.cons ⟨rfl, hro _⟩ (.cons ⟨rfl, .z29⟩ (.cons ⟨rfl, .pf (.closed rfl)⟩ (.cons ⟨rfl, RO.grD⟩ .nil)))) .nil ?_
      exact hQ
    | cons x l =>
      have hr := r42o n p ks.length ks b (flatD ls) (flatD ks) z29 (oPf i n (sl 4 (x :: l).length)) (grD (x :: l))
      rw [pw, hh] at hr
      refine pieceE hm pCall_sound (oo42a_sound _ _ _ _ _) hr ⟨hup, hL⟩ rfl 5 [(1, 1), (2, 2), (3, 5), (4, 4)] (os2 := [(0, .ro (flatD ls)), (1, z29), (2, oPf i n (sl 4 (x :: l).length)), (3, grD (upS ks)), (4, grD (x :: l))]) rfl
        (.cons ⟨rfl, hro _⟩ (.cons ⟨rfl, .z29⟩ (.cons ⟨rfl, .pf (.slice (i := 4) (j := 4) rfl)⟩ (.cons ⟨rfl, RO.grD⟩ (.cons ⟨rfl, RO.grD⟩ .nil))))) .nil ?_
      exact hQ

theorem does42 {ls : List (List Int)} {i : Nat} (h : ∀ d ∈ ls, d.length = 32) (h1 : 2 ≤ ls.length) (hb : ls.length ≤ 63) (hi : i < ls.length) :
    Does Tryz.prog 42 [sl 0 ls.length, i64 (i : Int)] ⟨1, [(0, .ro (flatD ls))]⟩ (ctP (i : Int) (ls.length : Int) (sl 1 (wayS i ls).length)) ((⟨1, [(0, .ro (flatD ls))]⟩ : Heap).push (grD (wayS i ls))) := by
  refine ctx_of_awp (ct := ctP (i : Int) (ls.length : Int)) (fun E s v' => ctP_inv _ _ E s v') (fun E s s' => ctP_mk _ _ E s s') (H := ⟨1, [(0, .ro (flatD ls))]⟩) Tryz.func42 (c := codeOf Tryz.f42 []) rfl flatD_c2 (awp_of_awn (n := 1) ?_ (Nat.le_refl _))
  have hpos := wayS_pos h1 hi
  have hsl := wayS_len i ls
  have hs32 := wayS_32 (i := i) (ls := ls)
  have ht : sibS (ls.length + 1) i (ls.map nodeS) = wayS i ls := rfl
  generalize wayS i ls = tot at *
  generalize hn : ls.length = n at *
  have hro : ∀ (σ : Nat → Option Nat), RO σ (.ro (flatD ls)) (.ro (flatD ls)) := fun σ => .ro (RV.all flatD_c2)
  refine pieceS hm pCall_sound noOO_sound 0 (r42a (flatD ls) n i) rfl trivial rfl 2 [(1, 1)] (os2 := [(0, .ro (flatD ls)), (1, z29)]) rfl (.cons ⟨rfl, hro _⟩ (.cons ⟨rfl, .z29⟩ .nil)) .nil ?_
  refine awn_seq (x := codeOf Tryz.f42 [1,0]) (y := codeOf Tryz.f42 [1,1]) ?_
  refine pieceT hm pCall_sound noOO_sound 0 (r42b n i _) rfl trivial rfl ?_
  refine awn_cond (c := .tmp 11) (b := decide ((n : Int) > 4096)) rfl rfl ?_
  rw [decide_eq_false (by omega)]
  refine awn_skip ?_
  refine awn_seq (x := codeOf Tryz.f42 [1,1,0]) (y := codeOf Tryz.f42 [1,1,1]) ?_
  refine pieceT hm pCall_sound (orO_sound forceO_sound forceO_sound) 0 (r42c n i _ _) rfl ⟨by rw [decide_eq_false (by omega)], rfl, trivial⟩ rfl ?_
  refine awn_cond (c := .tmp 20) (b := false) rfl rfl ?_
  refine awn_skip ?_
  refine pieceS hm pCall_sound noOO_sound 1 (r42d n i _ (flatD ls)) rfl trivial rfl 3 [(1, 1), (2, 2)] (os2 := [(0, .ro (flatD ls)), (1, z29), (2, oPf i n nilS)]) rfl (.cons ⟨rfl, hro _⟩ (.cons ⟨rfl, .z29⟩ (.cons ⟨rfl, .pf (.closed rfl)⟩ .nil))) .nil ?_
  refine awn_seq (x := codeOf Tryz.f42 [1,1,1,1,1,0]) (y := codeOf Tryz.f42 [1,1,1,1,1,1]) ?_
  refine pieceT hm pCall_sound noOO_sound 0 (r42e n i _ _) rfl trivial rfl ?_
  have hn32 : ∀ d ∈ ls.map nodeS, d.length = 32 := node32
  have hln : (ls.map nodeS).length = n := by simpa using hn
  refine awn_block (c := codeOf Tryz.f42 [1,1,1,1,1,0,1,0]) (awn_loop (c := codeOf Tryz.f42 [1,1,1,1,1,0,1,0,0])
    (fun k T H D => ∃ j, j + k = n ∧ ((j = 0 ∧ T = T42i n i nilS j ∧ H = mkH 3 [(0, .ro (flatD ls)), (1, z29), (2, oPf i n nilS)] []) ∨ (1 ≤ j ∧ T = T42i n i (sl 3 j) j ∧ H = mkH 4 [(0, .ro (flatD ls)), (1, z29), (2, oPf i n nilS), (3, grD ((ls.map nodeS).take j))] [])) ∧ D = [])
    n ⟨_, _, _, .refl _ _ _ _ _, 0, by omega, .inl ⟨rfl, rfl, rfl⟩, rfl⟩ ?_)
  rintro k T H D ⟨j, hk, hcase, rfl⟩
  have hw := wrap_i1 (i := j) (by omega)
  have hat : ∀ d, ls[j]? = some d → (ls.map nodeS)[j]? = some (nodeS d) := fun d hd => by rw [List.getElem?_map, hd]; rfl
  rcases hcase with ⟨rfl, rfl, rfl⟩ | ⟨hj, rfl, rfl⟩
  · refine awn_seq (x := codeOf Tryz.f42 [1,1,1,1,1,0,1,0,0,0]) (y := codeOf Tryz.f42 [1,1,1,1,1,0,1,0,0,1]) ?_
    refine pieceT hm pCall_sound noOO_sound 0 (r42f n i _ _ _) rfl trivial rfl ?_
    refine awn_cond (c := .tmp 29) (b := decide (((0 : Nat) : Int) < (n : Int))) rfl rfl ?_
    cases k with
    | zero => omega
    | succ k =>
      rw [decide_eq_true (by omega)]
      refine awn_skip ?_
      obtain ⟨hl1, hl2⟩ := getD_32 h (i := 0) (by omega)
      generalize ls.getD 0 [] = d at hl1 hl2
      have hr := r42g n i ((0 : Nat) : Int) (fn d) (fn (nodeS d)) (.bool true) (flatD ls) z29 (oPf i n nilS)
      rw [show dgf (fn d) = d from dgf_of hl1, show dgf (fn (nodeS d)) = nodeS d from dgf_of (nodeS_len d), hw] at hr
      refine pieceE hm pCall_sound (oo42_sound _ _) hr ⟨⟨hl1, rfl, rfl⟩, flatD_at h hl2, ⟨by omega, by omega⟩, trivial⟩ rfl 4 [(1, 1), (2, 2), (3, 4)] (os2 := [(0, .ro (flatD ls)), (1, z29), (2, oPf i n nilS), (3, grD ((ls.map nodeS).take (0 + 1)))]) rfl (.cons ⟨rfl, hro _⟩ (.cons ⟨rfl, .z29⟩ (.cons ⟨rfl, .pf (.closed rfl)⟩ (.cons ⟨rfl, ?_⟩ .nil)))) .nil ?_
      · rw [take_snoc (hat d hl2)]
        have : bytes (nodeS d) = flatD ([] ++ [nodeS d]) := by simp [flatD]
        rw [this]
        exact RO.grD
      intro T H D hN
      exact ⟨k, by omega, _, _, _, hN, 0 + 1, by omega, .inr ⟨by omega, rfl, rfl⟩, rfl⟩
  · refine awn_seq (x := codeOf Tryz.f42 [1,1,1,1,1,0,1,0,0,0]) (y := codeOf Tryz.f42 [1,1,1,1,1,0,1,0,0,1]) ?_
    refine pieceT hm pCall_sound noOO_sound 0 (r42f n i _ _ _) rfl trivial rfl ?_
    refine awn_cond (c := .tmp 29) (b := decide ((j : Int) < (n : Int))) rfl rfl ?_
    have htl : ((ls.map nodeS).take j).length = j := by rw [List.length_take]; omega
    have ht32 := take_32 hn32 j
    cases k with
    | succ k =>
      rw [decide_eq_true (by omega)]
      refine awn_skip ?_
      obtain ⟨hl1, hl2⟩ := getD_32 h (i := j) (by omega)
      generalize ls.getD j [] = d at hl1 hl2
      have hr := r42h n i j (j : Int) (fn d) (fn (nodeS d)) (.bool true) (flatD ls) (flatD ((ls.map nodeS).take j)) z29 (oPf i n nilS)
      have htk := take_flatD ht32 (nodeS d)
      rw [htl, ← take_snoc (hat d hl2)] at htk
      rw [show dgf (fn d) = d from dgf_of hl1, show dgf (fn (nodeS d)) = nodeS d from dgf_of (nodeS_len d), hw, htk] at hr
      have hap := appD' (nodeS_len d) ht32 (by omega)
      rw [htl] at hap
      refine pieceE hm pCall_sound (oo42_sound _ _) hr ⟨hap, ⟨hl1, rfl, rfl⟩, flatD_at h hl2, ⟨by omega, by omega⟩, trivial⟩ rfl 4 [(1, 1), (2, 2), (3, 5)] (os2 := [(0, .ro (flatD ls)), (1, z29), (2, oPf i n nilS), (3, grD ((ls.map nodeS).take (j + 1)))]) rfl (.cons ⟨rfl, hro _⟩ (.cons ⟨rfl, .z29⟩ (.cons ⟨rfl, .pf (.closed rfl)⟩ (.cons ⟨rfl, RO.grD⟩ .nil)))) .nil ?_
      intro T H D hN
      exact ⟨k, by omega, _, _, _, hN, j + 1, by omega, .inr ⟨by omega, rfl, rfl⟩, rfl⟩
    | zero =>
      rw [decide_eq_false (by omega)]
      refine awn_exit ?_
      have e0 : (ls.map nodeS).take j = ls.map nodeS := List.take_of_length_le (by omega)
      have hin : j = n := by omega
      subst hin
      refine awn_nrm (nrm_drop 6) ?_
      rw [e0]
      refine awn_seq (x := codeOf Tryz.f42 [1,1,1,1,1,1,0]) (y := codeOf Tryz.f42 [1,1,1,1,1,1,1]) ?_
      refine awn_block (c := codeOf Tryz.f42 [1,1,1,1,1,1,0,0]) (awn_loop (c := codeOf Tryz.f42 [1,1,1,1,1,1,0,0,0])
        (fun m T H D => ∃ (ks don : List (List Int)) (p q : Nat), ks.length = m ∧ 1 ≤ ks.length ∧ ks.length ≤ 1000 ∧ (∀ d ∈ ks, d.length = 32) ∧ ks.length ≤ q + 1 ∧ p < ks.length ∧ p < 127 ∧ don ++ sibS (q + 1) p ks = tot ∧ T = T42 j p (sl 3 ks.length) ∧ H = HS2 j i (flatD ls) don (grD ks) ∧ D = [])
        j ⟨_, _, _, .refl _ _ _ _ _, ls.map nodeS, [], i, j, hln, by omega, by omega, hn32, by omega, by omega, by omega, ht, by rw [hln]; rfl, rfl, rfl⟩ ?_)
      rintro m T H D ⟨ks, don, p, q, hm', hk1, hk2, hk32, hq, hp, hp2, htot, rfl, rfl, rfl⟩
      refine awn_seq (x := codeOf Tryz.f42 [1,1,1,1,1,1,0,0,0,0]) (y := codeOf Tryz.f42 [1,1,1,1,1,1,0,0,0,1]) ?_
      refine pieceT hm pCall_sound noOO_sound 0 (r42i j p ks.length _) rfl trivial rfl ?_
      refine awn_cond (c := .tmp 42) (b := decide ((ks.length : Int) > 1)) rfl rfl ?_
      have htl : don.length ≤ tot.length := by rw [← htot]; simp
      have hd32 : ∀ d ∈ don, d.length = 32 := fun d hd => hs32 d (by rw [← htot]; exact List.mem_append_left _ hd)
      rw [sibS] at htot
      by_cases h2 : ks.length ≤ 1
      · rw [decide_eq_false (by omega)]
        refine awn_exit ?_
        have hp0 : p = 0 := by omega
        have e1 : sib1 p ks = [] := by unfold sib1; rw [if_neg]; unfold xo; subst hp0; simp; omega
        rw [e1, if_pos h2] at htot
        have e2 : don = tot := by simpa using htot
        subst e2
        rw [HS2_cons (by intro e; rw [e] at hpos; simp at hpos)]
        refine pieceF hm pCall_sound noOO_sound (r42p j i p ks.length don.length _ (flatD ls) (flatD ks) (flatD don)) trivial ?_
        intro e T H he hr hnx hg
        cases tag1 he
        exact ⟨.inr rfl, rfl, _, hr, ⟨4, rfl, by show 1 ≤ 4; omega, hg (4, _) (.tail _ (.head _))⟩, keep1 (by rw [hnx]; show 1 ≤ 5; omega) (hg (0, _) (.head _))⟩
      · rw [decide_eq_true (by omega)]
        refine awn_skip ?_
        rw [if_neg h2, ← List.append_assoc] at htot
        refine round42 hk32 hd32 (by omega) hp hp2 (by omega) hk2 ?_
        intro T H D hN
        have hul := upS_len ks
        obtain ⟨q', rfl⟩ : ∃ q', q = q' + 1 := ⟨q - 1, by omega⟩
        exact ⟨(upS ks).length, by omega, _, _, _, hN, upS ks, don ++ sib1 p ks, p / 2, q', rfl, by omega, by omega, upS_32 hk32, by omega, by omega, by omega, htot, rfl, rfl, rfl⟩
theorem pr42 (ls : List (List Int)) (i : Nat) (way : List (List Int)) : SoundC Tryz.prog (oneC 42 (prG ls i way)) := prG_key ls i way fun h h1 h2 h3 => does42 h h1 h2 h3
end Go.Abs

namespace Go.Abs
open Go.Proofs
set_option maxRecDepth 1000000

-- digests that may differ
theorem eqItems_ne (w : World) (d : Nat) (xs ys : Array Value) (hs : ys.size = xs.size) (hx : ∀ v ∈ xs.toList, isU8 v = true) (hy : ∀ v ∈ ys.toList, isU8 v = true) : ∀ is : List Nat, (∀ i ∈ is, i < xs.size) → (∃ i ∈ is, xs[i]? ≠ ys[i]?) → (Op.eqItems (d + 1) 5 1 xs ys is).run Tryz.prog w = .ok false w
  | [], _, h => by obtain ⟨i, hi, _⟩ := h; cases hi
  | i :: is, h, hne => by
    have hi := h i (List.mem_cons_self ..)
    have hi2 : i < ys.size := by omega
    have hm : isU8 xs[i] = true := hx _ (by rw [Array.mem_toList_iff]; exact Array.getElem_mem hi)
    have hm2 : isU8 ys[i] = true := hy _ (by rw [Array.mem_toList_iff]; exact Array.getElem_mem hi2)
    have hp : (Go.part 5 xs (i * 1)).run Tryz.prog w = .ok xs[i] w := by
      rw [Nat.mul_one]
      simp [Go.part, run_isAgg agg5, Array.getElem?_eq_getElem hi]
    have hp2 : (Go.part 5 ys (i * 1)).run Tryz.prog w = .ok ys[i] w := by
      rw [Nat.mul_one]
      simp [Go.part, run_isAgg agg5, Array.getElem?_eq_getElem hi2]
    have key : ∀ v : Value, isU8 v = true → ∃ b, v = .int .u8 b := by
      intro v hv
      unfold isU8 at hv
      split at hv
      · exact ⟨_, rfl⟩
      · cases hv
    obtain ⟨a, ha⟩ := key _ hm
    obtain ⟨b, hb⟩ := key _ hm2
    have he := run_equalIn_int (P := Tryz.prog) w d 5 .u8 .u8 a b und5
    rw [ha] at hp
    rw [hb] at hp2
    simp only [Op.eqItems, Sem.run_bind, hp, hp2, Result.andThen_ok, he]
    by_cases hab : a = b
    · subst hab
      simp only [beq_self_eq_true, Bool.not_true, Bool.false_eq_true, if_false]
      refine eqItems_ne w d xs ys hs hx hy is (fun j hj => h j (List.mem_cons_of_mem _ hj)) ?_
      obtain ⟨j, hj, hjn⟩ := hne
      rcases List.mem_cons.1 hj with rfl | hj
      · exact absurd (by rw [Array.getElem?_eq_getElem hi, Array.getElem?_eq_getElem hi2, ha, hb]) hjn
      · exact ⟨j, hj, hjn⟩
    · have : (a == b) = false := by simpa using hab
      rw [this]
      simp
theorem equal_ne (w : World) (xs ys : Array Value) (hs : xs.size = 32) (hs2 : ys.size = 32) (hx : ∀ v ∈ xs.toList, isU8 v = true) (hy : ∀ v ∈ ys.toList, isU8 v = true) (hne : xs ≠ ys) : (Op.equalIn 10000 26 (.agg xs) (.agg ys)).run Tryz.prog w = .ok false w := by
  obtain ⟨i, hi⟩ := info5
  rw [show 10000 = 9999 + 1 from rfl, run_equalIn_array w 9999 xs ys und26 hi, cells5]
  refine eqItems_ne w 9998 xs ys (by omega) hx hy _ (fun j hj => by rw [hs]; exact List.mem_range.1 hj) ?_
  false_or_by_contra
  rename_i hall
  refine hne (Array.ext (by omega) fun j h1 h2 => ?_)
  false_or_by_contra
  rename_i hj
  refine hall ⟨j, List.mem_range.2 (by omega), fun e => hj ?_⟩
  rw [Array.getElem?_eq_getElem h1, Array.getElem?_eq_getElem h2] at e
  exact Option.some.inj e

/-- Two digests compared: the answer and what it must be. -/
def EqdC (vs ws : Array Value) (b : Bool) : Prop := vs.size = 32 ∧ ws.size = 32 ∧ (∀ v ∈ vs.toList, isU8 v = true) ∧ (∀ v ∈ ws.toList, isU8 v = true) ∧ (b = true ↔ vs = ws)
def eqdO (d : Nat) (b : Bool) : OpO := fun o ρ _ => match o.dst with
  | some d' => bif Nat.beq d' d then (match o.op with
    | .binOp .eql t x y _ => match ρ x, ρ y with
      | .agg vs, .agg ws => bif Nat.beq t 26 then some (.pure (.bool b) (EqdC vs ws b)) else none
      | _, _ => none
    | _ => none) else none
  | none => none
theorem u8s_c2 {vs : Array Value} (h3 : ∀ v ∈ vs.toList, isU8 v = true) : c2 (.agg vs) = true := by
  simp only [c2, c1, Array.all_eq_true']
  intro v hv
  have := h3 v (by rw [Array.mem_toList_iff]; exact hv)
  cases v <;> first | rfl | cases this
theorem eqdO_sound {d : Nat} {b : Bool} : SoundO Tryz.prog (eqdO d b) := by
  have key : ∀ o ρ H r, eqdO d b o ρ H = some r → ∃ v c, r = .pure v c ∧ (c → SPure Tryz.prog o ρ v) := by
    intro o ρ H r h
    unfold eqdO at h
    split at h
    case h_2 => cases h
    obtain ⟨_, h⟩ := cond_opt h
    split at h
    case h_2 => cases h
    rename_i t x y yt ho
    split at h
    case h_2 => cases h
    rename_i vs ws hvx hvy
    obtain ⟨ht, h⟩ := cond_opt h
    have ht := beqN ht
    subst ht
    cases h
    refine ⟨_, _, rfl, fun ⟨h1, h2, h3, h4, h5⟩ H2 => .of_Q fun B E a w hH hr => ?_⟩
    have ex := eq_of_c2 (hvx ▸ hr x (by simp [ho, Op.operands])) (u8s_c2 h3)
    have ey := eq_of_c2 (hvy ▸ hr y (by simp [ho, Op.operands])) (u8s_c2 h4)
    obtain ⟨dst, op, type, pos, after, guard⟩ := o
    simp only at ho
    subst ho
    refine ⟨.bool b, ?_, .bool b⟩
    have hg := run_eqGuard_agg (P := Tryz.prog) w .eql 26 x y vs ws guard26
    have hq := run_eql_struct (P := Tryz.prog) w 26 vs ws
    have he : (Op.equalIn 10000 26 (.agg vs) (.agg ws)).run Tryz.prog w = .ok b w := by
      cases b with
      | true =>
        have := h5.1 rfl
        subst this
        exact equal_same w vs h1 h3
      | false => exact equal_ne w vs ws h1 h2 h3 h4 fun e => by have := h5.2 e; cases this
    rw [he] at hq
    simp only [execOp, ex, ey, Sem.run_bind, hg, Result.andThen_ok, hq]
    rfl
  refine ⟨fun o ρ H v ob c h => ?_, fun o ρ H v c h => ?_, fun o ρ H v c h => ?_, fun o ρ H v c h => ?_, fun o ρ H v H' c h => ?_⟩
  · obtain ⟨_, _, h, k⟩ := key _ _ _ _ h; cases h
  · obtain ⟨_, _, h, k⟩ := key _ _ _ _ h; cases h
  · obtain ⟨_, _, h, k⟩ := key _ _ _ _ h; cases h; exact k
  · obtain ⟨_, _, h, k⟩ := key _ _ _ _ h; cases h
  · obtain ⟨_, _, h, k⟩ := key _ _ _ _ h; cases h

/-- A call that may come at any time: it looks at no object and hands back none. -/
def pureO (P : Program) (k : FuncId) (G : List Value → Option (Value × Prop)) : OpO := fun o ρ _ => match o.op with
  | .call c => match calleeA P ρ c with
    | some (f, args) => bif Nat.beq f k then (match G args with
      | some (v, c) => some (.pure v c)
      | none => none) else none
    | none => none
  | _ => none
theorem pureO_sound {P : Program} {k : FuncId} {G : List Value → Option (Value × Prop)} (hG : ∀ args v c, G args = some (v, c) → c → c2 v = true ∧ ∀ H, Does P k args H v H) : SoundO P (pureO P k G) := by
  have key : ∀ o ρ H r, pureO P k G o ρ H = some r → ∃ v c, r = .pure v c ∧ (c → SPure P o ρ v) := by
    intro o ρ H r h
    unfold pureO at h
    split at h
    case h_2 => cases h
    rename_i c ho
    split at h
    case h_2 => cases h
    rename_i f args hc
    obtain ⟨hf, h'⟩ := cond_opt h
    clear h
    have hf := beqN hf
    subst hf
    split at h'
    case h_2 => cases h'
    rename_i v q hq
    cases h'
    refine ⟨_, _, rfl, fun hh => ?_⟩
    obtain ⟨h1, h2⟩ := hG _ _ _ hq hh
    exact .call ho h1 hc h2
  refine ⟨fun o ρ H v ob c h => ?_, fun o ρ H v c h => ?_, fun o ρ H v c h => ?_, fun o ρ H v c h => ?_, fun o ρ H v H' c h => ?_⟩
  · obtain ⟨_, _, h, k⟩ := key _ _ _ _ h; cases h
  · obtain ⟨_, _, h, k⟩ := key _ _ _ _ h; cases h
  · obtain ⟨_, _, h, k⟩ := key _ _ _ _ h; cases h; exact k
  · obtain ⟨_, _, h, k⟩ := key _ _ _ _ h; cases h
  · obtain ⟨_, _, h, k⟩ := key _ _ _ _ h; cases h

/-- Nodes by contract, at any time. -/
def ndP (a x : List Int) : List Value → Option (Value × Prop) := fun args => match args with
  | [v] => some (dig x, a.length = 32 ∧ v = dig a ∧ x = nodeS a)
  | _ => none
theorem ndP131 (a x : List Int) : SoundO Tryz.prog (pureO Tryz.prog 131 (ndP a x)) := pureO_sound fun args v c h => by
  unfold ndP at h
  split at h
  case h_2 => cases h
  cases h
  rintro ⟨h1, rfl, rfl⟩
  exact ⟨dig_c2 _, fun H => does131 a h1 H⟩

-- what a proof comes to
def apS : Nat → Nat → Nat → List (List Int) → List Int → List Int
  | 0, _, _, _, d => d
  | q + 1, p, n, ss, d => if n ≤ 1 then d else if xo p < n then apS q (p / 2) ((n + 1) / 2) (ss.drop 1) (if p % 2 = 0 then pairS d (ss.getD 0 []) else pairS (ss.getD 0 []) d) else apS q (p / 2) ((n + 1) / 2) ss d
def ndS : Nat → Nat → Nat → Nat
  | 0, _, _ => 0
  | q + 1, p, n => if n ≤ 1 then 0 else (if xo p < n then 1 else 0) + ndS q (p / 2) ((n + 1) / 2)
def applyS (i n : Nat) (ss : List (List Int)) (d : List Int) : List Int := sealS (apS n i n ss (nodeS d)) n
theorem applyS_len (i n : Nat) (ss : List (List Int)) (d : List Int) : (applyS i n ss d).length = 32 := sumS_len _ _
theorem sib_nd : ∀ (q p : Nat) (ks : List (List Int)), p < ks.length → ks.length ≤ q + 1 → (sibS (q + 1) p ks).length = ndS q p ks.length
  | 0, p, ks, h1, h2 => by
    have hk : ks.length = 1 := by omega
    have hp : p = 0 := by omega
    subst hp
    have : sib1 0 ks = [] := by unfold sib1 xo; rw [if_neg]; simp; omega
    simp [sibS, this, hk, ndS]
  | q + 1, p, ks, h1, h2 => by
    rw [sibS, ndS, List.length_append]
    by_cases hk : ks.length ≤ 1
    · have hp : p = 0 := by omega
      subst hp
      have : sib1 0 ks = [] := by unfold sib1 xo; rw [if_neg]; simp; omega
      rw [if_pos hk, if_pos hk, this]; rfl
    · have hul := upS_len ks
      rw [if_neg hk, if_neg hk, sib_nd q (p / 2) (upS ks) (by omega) (by omega), hul]
      congr 1
      unfold sib1
      split <;> rfl
theorem way_nd {i : Nat} {ls : List (List Int)} (hi : i < ls.length) : (wayS i ls).length = ndS ls.length i ls.length := by
  have := sib_nd ls.length i (ls.map nodeS) (by simpa using hi) (by simp)
  rw [wayS, this]; simp

-- the walk
abbrev pv (i n : Nat) (s : Value) : Value := .agg #[i64 (i : Int), i64 (n : Int), s]
abbrev D84 : Defs := [(135, [pt 3, pt 4])]
abbrev T84 : List Value := mkT 84 [(2, pt 1), (3, pt 2), (4, pt 3), (5, pt 4)] jX
abbrev o84 (cs d : List Value) (i n k : Nat) : List (Nat × AObj) := [(0, .ro cs), (1, .cells d 26), (2, oPf i n (sl 0 k)), (3, .cells zD 26), (4, .cells [i64 0] 43)]
theorem r84a (cs : List Value) (f : Nat → Int) (n i k : Nat) : (ex3 Tryz.prog pCall noOO 60 (pre 1 (codeOf Tryz.f84 [])) ⟨⟨[dig (dgf f), pv i n (sl 0 k)] ++ List.replicate 82 undef, ⟨1, [(0, .ro cs)]⟩, []⟩, True⟩).map (obs3 [2,3,4,5] [0,1,2,3,4])
  = some (⟨0, [pt 1, pt 2, pt 3, pt 4], 84, 5, [.ro cs, .cells (bytes (dgf f)) 26, oPf i n (sl 0 k), .cells zD 26, .cells [i64 0] 43], D84⟩, True) := by kernel_rfl
noncomputable def oo84 : OpO := orO (forceO Tryz.prog 13 (.bool false)) (orO (forceO Tryz.prog 17 (.bool false)) (orO (forceO Tryz.prog 22 (.bool false)) (forceO Tryz.prog 29 (.bool false))))
theorem oo84_sound : SoundO Tryz.prog oo84 := orO_sound forceO_sound (orO_sound forceO_sound (orO_sound forceO_sound forceO_sound))
abbrev C84 (i n : Nat) : Prop := some (Value.bool (decide ((i : Int) ≥ (n : Int)))) = some (Value.bool false) ∧ some (Value.bool false) = some (Value.bool false) ∧ some (Value.bool (decide ((n : Int) > 4096))) = some (Value.bool false) ∧ some (Value.bool (decide ((n : Int) < 1))) = some (Value.bool false) ∧ True
theorem c84_ok {i n : Nat} (h1 : 1 ≤ n) (h2 : n ≤ 63) (h3 : i < n) : C84 i n := ⟨by rw [decide_eq_false (by omega)], rfl, by rw [decide_eq_false (by omega)], by rw [decide_eq_false (by omega)], trivial⟩
theorem r84b (cs d : List Value) (n i k : Nat) : (ex3 Tryz.prog pCall oo84 60 (pre 0 (codeOf Tryz.f84 [1,1,0])) ⟨⟨T84, mkH 5 (o84 cs d i n k) [], D84⟩, True⟩).map (obsQ [2,3,4,5,30])
  = some (⟨0, [pt 1, pt 2, pt 3, pt 4, .bool false], 84, mkH 5 (o84 cs d i n k) [], D84⟩, C84 i n) := by kernel_rfl
end Go.Abs

namespace Go.Abs
open Go.Proofs
set_option maxRecDepth 1000000

abbrev o84b (cs d g : List Value) (i n k : Nat) : List (Nat × AObj) := [(0, .ro cs), (1, .cells d 26), (2, oPf i n (sl 0 k)), (3, .cells zD 26), (4, .cells [i64 0] 43), (5, .cells g 26)]
abbrev v84 (cs d g : List Value) (i n k : Nat) : List AObj := [.ro cs, .cells d 26, oPf i n (sl 0 k), .cells zD 26, .cells [i64 0] 43, .cells g 26]
abbrev H84b (cs d g : List Value) (i n k : Nat) : Heap := mkH 6 (o84b cs d g i n k) []
theorem r84c (cs : List Value) (f g : Nat → Int) (n i k : Nat) (b : Value) : (ex3 Tryz.prog pCall (pureO Tryz.prog 131 (ndP (dgf f) (dgf g))) 60 (pre 0 (codeOf Tryz.f84 [1,1,1])) ⟨⟨mkT 84 [(2, pt 1), (3, pt 2), (4, pt 3), (5, pt 4), (30, b)] jX, mkH 5 (o84 cs (bytes (dgf f)) i n k) [], D84⟩, True⟩).map (obs3 [2,3,4,5,6,7,8] [0,1,2,3,4,5])
  = some (⟨0, [pt 1, pt 2, pt 3, pt 4, pt 5, i64 ((0 : Nat) : Int), i64 (i : Int)], 84, 6, [.ro cs, .cells (bytes (dgf f)) 26, oPf i n (sl 0 k), .cells zD 26, .cells [i64 0] 43, .cells (bytes (dgf g)) 26], D84⟩,
    some (i64 (i : Int)) = some (i64 (i : Int)) ∧ some (i64 (i : Int)) = some (i64 (i : Int)) ∧ some (dig (dgf f)) = some (dig (dgf f)) ∧ ((dgf f).length = 32 ∧ dig (dgf f) = dig (dgf f) ∧ dgf g = nodeS (dgf f)) ∧ True) := by kernel_rfl
theorem r84d (cs d g : List Value) (n i k c p : Nat) : (ex3 Tryz.prog pCall noOO 60 (pre 0 (codeOf Tryz.f84 [1,1,1,1,0])) ⟨⟨mkT 84 [(2, pt 1), (3, pt 2), (4, pt 3), (5, pt 4), (6, pt 5), (7, i64 (c : Int)), (8, i64 (p : Int))] jX, H84b cs d g i n k, D84⟩, True⟩).map (obsQ [2,3,4,5,6,7,8,9])
  = some (⟨0, [pt 1, pt 2, pt 3, pt 4, pt 5, i64 (c : Int), i64 (p : Int), i64 (n : Int)], 84, H84b cs d g i n k, D84⟩, True) := by kernel_rfl
abbrev T84b (c p n : Nat) : List Value := mkT 84 [(2, pt 1), (3, pt 2), (4, pt 3), (5, pt 4), (6, pt 5), (7, i64 (c : Int)), (8, i64 (p : Int)), (9, i64 (n : Int))] jX
abbrev T84c (c p n : Nat) (b : Value) : List Value := mkT 84 [(2, pt 1), (3, pt 2), (4, pt 3), (5, pt 4), (6, pt 5), (7, i64 (c : Int)), (8, i64 (p : Int)), (9, i64 (n : Int)), (39, b)] jX
theorem r84e (H : Heap) (D : Defs) (c p n : Nat) : (ex3 Tryz.prog pCall noOO 60 (pre 0 (codeOf Tryz.f84 [1,1,1,1,0,1,0,0,0])) ⟨⟨T84b c p n, H, D⟩, True⟩).map (obsQ [2,3,4,5,6,7,8,9,39])
  = some (⟨0, [pt 1, pt 2, pt 3, pt 4, pt 5, i64 (c : Int), i64 (p : Int), i64 (n : Int), .bool (decide ((n : Int) > 1))], 84, H, D⟩, True) := by kernel_rfl
noncomputable def oo84a (x : Nat) (g s h : Nat → Int) (b1 b2 : Bool) : OpO := orO (forceO Tryz.prog 44 (i64 (x : Int))) (orO (forceO Tryz.prog 46 (.bool b1)) (orO (forceO Tryz.prog 51 (.bool false)) (orO (forceO Tryz.prog 55 (.bool b2)) (orO (idxO Tryz.prog 60) (orO (ldO Tryz.prog 61 (dig (dgf s))) (orO (idxO Tryz.prog 66) (orO (ldO Tryz.prog 67 (dig (dgf s))) (callO Tryz.prog (oneC 136 (bif b2 then pr3 (dgf g) (dgf s) (dgf h) else pr3 (dgf s) (dgf g) (dgf h)))))))))))
theorem oo84a_sound (x : Nat) (g s h : Nat → Int) (b1 b2 : Bool) : SoundO Tryz.prog (oo84a x g s h b1 b2) := orO_sound forceO_sound (orO_sound forceO_sound (orO_sound forceO_sound (orO_sound forceO_sound (orO_sound idxO_sound (orO_sound ldO_sound (orO_sound idxO_sound (orO_sound ldO_sound (callO_sound (by cases b2 <;> exact pr136 _ _ _)))))))))
abbrev nw (m : Nat) : Value := i64 (IntKind.i64.wrap ((IntKind.i64.wrap ((m : Int) + 1)).tdiv 2))
abbrev cw (c : Nat) : Value := i64 (IntKind.i64.wrap ((c : Int) + 1))
abbrev Y84 (c k p m x : Nat) (b : Bool) : Prop := ((0 : Int) ≤ (c : Int) ∧ (c : Int) < (k : Int)) ∧ some (Value.bool ((p : Int).tmod 2 == 0)) = some (Value.bool b) ∧ some (Value.bool ((c : Int) == (k : Int))) = some (Value.bool false) ∧ some (Value.bool (decide ((x : Int) < (m : Int)))) = some (Value.bool true) ∧ XoC p x ∧ True
theorem r84f (cs d : List Value) (g s h : Nat → Int) (i n k c p m x : Nat) (b : Value) : (ex3 Tryz.prog pCall (oo84a x g s h true true) 60 (codeOf Tryz.f84 [1,1,1,1,0,1,0,0,1]) ⟨⟨T84c c p m b, H84b cs d (bytes (dgf g)) i n k, D84⟩, True⟩).map (obs3 [2,3,4,5,6,7,8,9] [0,1,2,3,4,5])
  = some (⟨0, [pt 1, pt 2, pt 3, pt 4, pt 5, cw c, pw p, nw m], 84, 6, v84 cs d (bytes (dgf h)) i n k, D84⟩,
    (PrC (dgf g) (dgf s) (dig (dgf g)) (dig (dgf s)) ∧ dgf h = pairS (dgf g) (dgf s)) ∧ LdC Tryz.prog 26 (some cs) (0 + c * 32) (dig (dgf s)) ∧ Y84 c k p m x true) := by kernel_rfl
theorem r84g (cs d : List Value) (g s h : Nat → Int) (i n k c p m x : Nat) (b : Value) : (ex3 Tryz.prog pCall (oo84a x g s h true false) 60 (codeOf Tryz.f84 [1,1,1,1,0,1,0,0,1]) ⟨⟨T84c c p m b, H84b cs d (bytes (dgf g)) i n k, D84⟩, True⟩).map (obs3 [2,3,4,5,6,7,8,9] [0,1,2,3,4,5])
  = some (⟨0, [pt 1, pt 2, pt 3, pt 4, pt 5, cw c, pw p, nw m], 84, 6, v84 cs d (bytes (dgf h)) i n k, D84⟩,
    (PrC (dgf s) (dgf g) (dig (dgf s)) (dig (dgf g)) ∧ dgf h = pairS (dgf s) (dgf g)) ∧ LdC Tryz.prog 26 (some cs) (0 + c * 32) (dig (dgf s)) ∧ Y84 c k p m x false) := by kernel_rfl
theorem r84h (cs d g : List Value) (i n k c p m x : Nat) (b : Value) : (ex3 Tryz.prog pCall (oo84a x (fun _ => 0) (fun _ => 0) (fun _ => 0) false true) 60 (codeOf Tryz.f84 [1,1,1,1,0,1,0,0,1]) ⟨⟨T84c c p m b, H84b cs d g i n k, D84⟩, True⟩).map (obs3 [2,3,4,5,6,7,8,9] [0,1,2,3,4,5])
  = some (⟨0, [pt 1, pt 2, pt 3, pt 4, pt 5, i64 (c : Int), pw p, nw m], 84, 6, v84 cs d g i n k, D84⟩, some (Value.bool (decide ((x : Int) < (m : Int)))) = some (Value.bool false) ∧ XoC p x ∧ True) := by kernel_rfl
noncomputable def oo84z (n : Nat) (g h : Nat → Int) : OpO := orO (forceO Tryz.prog 78 (.bool false)) (callO Tryz.prog (oneC 79 (seG (dgf g) n (dgf h))))
theorem oo84z_sound (n : Nat) (g h : Nat → Int) : SoundO Tryz.prog (oo84z n g h) := orO_sound forceO_sound (callO_sound (se79 _ _ _))
theorem r84i (cs d : List Value) (g h : Nat → Int) (i n k c p m : Nat) (b : Value) : (ex3 Tryz.prog pCall (oo84z n g h) 60 (codeOf Tryz.f84 [1,1,1,1,1]) ⟨⟨T84c c p m b, H84b cs d (bytes (dgf g)) i n k, D84⟩, True⟩).map (fin3 Tryz.prog Tryz.f84 [0])
  = some (⟨1, some (.tuple #[dig (dgf h), i64 0]), 6, [.ro cs], D84⟩, SeC (dgf g) (dgf h) (dig (dgf g)) (n : Int) n ∧ some (Value.bool ((c : Int) != (k : Int))) = some (Value.bool false) ∧ True) := by kernel_rfl
-- the reference
abbrev T85 : List Value := mkT 88 [(2, pt 1), (3, pt 2), (4, pt 3), (5, i64 0)] jX
abbrev o85 (cs d : List Value) (i n k : Nat) : List (Nat × AObj) := [(0, .ro cs), (1, .cells d 26), (2, oPf i n (sl 0 k)), (3, .cells zD 26)]
theorem r85a (cs : List Value) (f : Nat → Int) (n i k : Nat) : (ex3 Tryz.prog pCall noOO 60 (pre 0 (codeOf Tryz.f85 [])) ⟨⟨[dig (dgf f), pv i n (sl 0 k)] ++ List.replicate 86 undef, ⟨1, [(0, .ro cs)]⟩, []⟩, True⟩).map (obs3 [2,3,4,5] [0,1,2,3])
  = some (⟨0, [pt 1, pt 2, pt 3, i64 0], 88, 4, [.ro cs, .cells (bytes (dgf f)) 26, oPf i n (sl 0 k), .cells zD 26], []⟩, True) := by kernel_rfl
noncomputable def oo85 : OpO := orO (forceO Tryz.prog 12 (.bool false)) (orO (forceO Tryz.prog 16 (.bool false)) (orO (forceO Tryz.prog 21 (.bool false)) (forceO Tryz.prog 28 (.bool false))))
theorem oo85_sound : SoundO Tryz.prog oo85 := orO_sound forceO_sound (orO_sound forceO_sound (orO_sound forceO_sound forceO_sound))
theorem r85b (cs d : List Value) (n i k : Nat) : (ex3 Tryz.prog pCall oo85 60 (pre 0 (codeOf Tryz.f85 [1,0])) ⟨⟨T85, mkH 4 (o85 cs d i n k) [], []⟩, True⟩).map (obsQ [2,3,4,5,29])
  = some (⟨0, [pt 1, pt 2, pt 3, i64 0, .bool false], 88, mkH 4 (o85 cs d i n k) [], []⟩, C84 i n) := by kernel_rfl
abbrev o85b (cs d g : List Value) (i n k : Nat) : List (Nat × AObj) := [(0, .ro cs), (1, .cells d 26), (2, oPf i n (sl 0 k)), (3, .cells zD 26), (4, .cells g 26)]
abbrev v85 (cs d g : List Value) (i n k : Nat) : List AObj := [.ro cs, .cells d 26, oPf i n (sl 0 k), .cells zD 26, .cells g 26]
abbrev H85b (cs d g : List Value) (i n k : Nat) : Heap := mkH 5 (o85b cs d g i n k) []
theorem r85c (cs : List Value) (f g : Nat → Int) (n i k : Nat) (b : Value) : (ex3 Tryz.prog pCall (callO Tryz.prog (oneC 80 (nd1 (dgf f) (dgf g)))) 60 (pre 2 (codeOf Tryz.f85 [1,1])) ⟨⟨mkT 88 [(2, pt 1), (3, pt 2), (4, pt 3), (5, i64 0), (29, b)] jX, mkH 4 (o85 cs (bytes (dgf f)) i n k) [], []⟩, True⟩).map (obs3 [2,3,4,5,6,7,8] [0,1,2,3,4])
  = some (⟨0, [pt 1, pt 2, pt 3, i64 0, pt 4, i64 ((0 : Nat) : Int), i64 (i : Int)], 88, 5, v85 cs (bytes (dgf f)) (bytes (dgf g)) i n k, []⟩, ((dgf f).length = 32 ∧ dig (dgf f) = dig (dgf f) ∧ dgf g = nodeS (dgf f)) ∧ True) := by kernel_rfl
theorem r85d (cs d g : List Value) (n i k c p : Nat) : (ex3 Tryz.prog pCall noOO 60 (pre 0 (codeOf Tryz.f85 [1,1,1,1,1,0])) ⟨⟨mkT 88 [(2, pt 1), (3, pt 2), (4, pt 3), (5, i64 0), (6, pt 4), (7, i64 (c : Int)), (8, i64 (p : Int))] jX, H85b cs d g i n k, []⟩, True⟩).map (obsQ [2,3,4,5,6,7,8,9])
  = some (⟨0, [pt 1, pt 2, pt 3, i64 0, pt 4, i64 (c : Int), i64 (p : Int), i64 (n : Int)], 88, H85b cs d g i n k, []⟩, True) := by kernel_rfl
abbrev T85b (c p n : Nat) : List Value := mkT 88 [(2, pt 1), (3, pt 2), (4, pt 3), (5, i64 0), (6, pt 4), (7, i64 (c : Int)), (8, i64 (p : Int)), (9, i64 (n : Int))] jX
abbrev T85c (c p n : Nat) (b : Value) : List Value := mkT 88 [(2, pt 1), (3, pt 2), (4, pt 3), (5, i64 0), (6, pt 4), (7, i64 (c : Int)), (8, i64 (p : Int)), (9, i64 (n : Int)), (38, b)] jX
theorem r85e (H : Heap) (D : Defs) (c p n : Nat) : (ex3 Tryz.prog pCall noOO 60 (pre 0 (codeOf Tryz.f85 [1,1,1,1,1,0,1,0,0,0])) ⟨⟨T85b c p n, H, D⟩, True⟩).map (obsQ [2,3,4,5,6,7,8,9,38])
  = some (⟨0, [pt 1, pt 2, pt 3, i64 0, pt 4, i64 (c : Int), i64 (p : Int), i64 (n : Int), .bool (decide ((n : Int) > 1))], 88, H, D⟩, True) := by kernel_rfl
noncomputable def oo85a (g s h : Nat → Int) (b1 b2 : Bool) : OpO := orO (forceO Tryz.prog 44 (.bool b1)) (orO (forceO Tryz.prog 49 (.bool b2)) (orO (forceO Tryz.prog 55 (.bool false)) (orO (forceO Tryz.prog 59 (.bool b1)) (orO (idxO Tryz.prog 63) (orO (ldO Tryz.prog 64 (dig (dgf s))) (orO (idxO Tryz.prog 71) (orO (ldO Tryz.prog 72 (dig (dgf s))) (callO Tryz.prog (oneC 134 (bif b1 then pr2 (dgf s) (dgf g) (dgf h) else pr2 (dgf g) (dgf s) (dgf h)))))))))))
theorem oo85a_sound (g s h : Nat → Int) (b1 b2 : Bool) : SoundO Tryz.prog (oo85a g s h b1 b2) := orO_sound forceO_sound (orO_sound forceO_sound (orO_sound forceO_sound (orO_sound forceO_sound (orO_sound idxO_sound (orO_sound ldO_sound (orO_sound idxO_sound (orO_sound ldO_sound (callO_sound (by cases b1 <;> exact pr134 _ _ _)))))))))
abbrev B85 (p : Nat) (b : Bool) : Prop := some (Value.bool ((p : Int).tmod 2 == 1)) = some (Value.bool b)
theorem r85f (cs d : List Value) (g s h : Nat → Int) (i n k c p m : Nat) (b : Value) : (ex3 Tryz.prog pCall (oo85a g s h true true) 60 (codeOf Tryz.f85 [1,1,1,1,1,0,1,0,0,1]) ⟨⟨T85c c p m b, H85b cs d (bytes (dgf g)) i n k, []⟩, True⟩).map (obs3 [2,3,4,5,6,7,8,9] [0,1,2,3,4])
  = some (⟨0, [pt 1, pt 2, pt 3, i64 0, pt 4, cw c, pw p, nw m], 88, 5, v85 cs d (bytes (dgf h)) i n k, []⟩,
    (PrC (dgf s) (dgf g) (dig (dgf s)) (dig (dgf g)) ∧ dgf h = pairS (dgf s) (dgf g)) ∧ LdC Tryz.prog 26 (some cs) (0 + c * 32) (dig (dgf s)) ∧ ((0 : Int) ≤ (c : Int) ∧ (c : Int) < (k : Int)) ∧ B85 p true ∧ some (Value.bool (decide ((c : Int) ≥ (k : Int)))) = some (Value.bool false) ∧ B85 p true ∧ True) := by kernel_rfl
theorem r85g (cs d : List Value) (g s h : Nat → Int) (i n k c p m : Nat) (b : Value) : (ex3 Tryz.prog pCall (oo85a g s h false true) 60 (codeOf Tryz.f85 [1,1,1,1,1,0,1,0,0,1]) ⟨⟨T85c c p m b, H85b cs d (bytes (dgf g)) i n k, []⟩, True⟩).map (obs3 [2,3,4,5,6,7,8,9] [0,1,2,3,4])
  = some (⟨0, [pt 1, pt 2, pt 3, i64 0, pt 4, cw c, pw p, nw m], 88, 5, v85 cs d (bytes (dgf h)) i n k, []⟩,
    (PrC (dgf g) (dgf s) (dig (dgf g)) (dig (dgf s)) ∧ dgf h = pairS (dgf g) (dgf s)) ∧ LdC Tryz.prog 26 (some cs) (0 + c * 32) (dig (dgf s)) ∧ ((0 : Int) ≤ (c : Int) ∧ (c : Int) < (k : Int)) ∧ B85 p false ∧ some (Value.bool (decide ((c : Int) ≥ (k : Int)))) = some (Value.bool false) ∧ some (Value.bool (decide (IntKind.i64.wrap ((p : Int) + 1) < (m : Int)))) = some (Value.bool true) ∧ B85 p false ∧ True) := by kernel_rfl
theorem r85h (cs d g : List Value) (i n k c p m : Nat) (b : Value) : (ex3 Tryz.prog pCall (oo85a (fun _ => 0) (fun _ => 0) (fun _ => 0) false false) 60 (codeOf Tryz.f85 [1,1,1,1,1,0,1,0,0,1]) ⟨⟨T85c c p m b, H85b cs d g i n k, []⟩, True⟩).map (obs3 [2,3,4,5,6,7,8,9] [0,1,2,3,4])
  = some (⟨0, [pt 1, pt 2, pt 3, i64 0, pt 4, i64 (c : Int), pw p, nw m], 88, 5, v85 cs d g i n k, []⟩, some (Value.bool (decide (IntKind.i64.wrap ((p : Int) + 1) < (m : Int)))) = some (Value.bool false) ∧ B85 p false ∧ True) := by kernel_rfl
noncomputable def oo85z (n : Nat) (g h : Nat → Int) : OpO := orO (forceO Tryz.prog 82 (.bool false)) (callO Tryz.prog (oneC 82 (seG (dgf g) n (dgf h))))
theorem oo85z_sound (n : Nat) (g h : Nat → Int) : SoundO Tryz.prog (oo85z n g h) := orO_sound forceO_sound (callO_sound (se82 _ _ _))
theorem r85i (cs d : List Value) (g h : Nat → Int) (i n k c p m : Nat) (b : Value) : (ex3 Tryz.prog pCall (oo85z n g h) 60 (codeOf Tryz.f85 [1,1,1,1,1,1]) ⟨⟨T85c c p m b, H85b cs d (bytes (dgf g)) i n k, []⟩, True⟩).map (fin3 Tryz.prog Tryz.f85 [0])
  = some (⟨1, some (.tuple #[dig (dgf h), i64 0]), 5, [.ro cs], []⟩, SeC (dgf g) (dgf h) (dig (dgf g)) (n : Int) n ∧ some (Value.bool (decide ((c : Int) < (k : Int)))) = some (Value.bool false) ∧ True) := by kernel_rfl
-- no proof at all
theorem r84z (f : Nat → Int) : (ex3 Tryz.prog pCall noOO 60 (codeOf Tryz.f84 []) ⟨⟨[dig (dgf f), pv 0 0 nilS] ++ List.replicate 82 undef, ⟨0, []⟩, []⟩, True⟩).map (fin3 Tryz.prog Tryz.f84 [])
  = some (⟨1, some (.tuple #[dig zl, i64 1]), 4, [], [(135, [pt 2, pt 3])]⟩, True) := by kernel_rfl
theorem r85z (f : Nat → Int) : (ex3 Tryz.prog pCall noOO 60 (codeOf Tryz.f85 []) ⟨⟨[dig (dgf f), pv 0 0 nilS] ++ List.replicate 86 undef, ⟨0, []⟩, []⟩, True⟩).map (fin3 Tryz.prog Tryz.f85 [])
  = some (⟨1, some (.tuple #[dig zl, i64 1]), 3, [], []⟩, True) := by kernel_rfl

theorem nl_half {m : Nat} (h : m ≤ 1000) : IntKind.i64.wrap ((IntKind.i64.wrap ((m : Int) + 1)).tdiv 2) = (((m + 1) / 2 : Nat) : Int) := by
  rw [wrapI (n := (m : Int) + 1) (by omega) (by omega)]
  rw [show ((m : Int) + 1).tdiv 2 = (((m + 1) / 2 : Nat) : Int) by rw [Int.tdiv_eq_ediv_of_nonneg (by omega)]; omega]
  exact wrapI (by omega) (by omega)
theorem tm0 {p : Nat} : ((p : Int).tmod 2 == 0) = decide (p % 2 = 0) := by
  have ht : (p : Int).tmod 2 = ((p % 2 : Nat) : Int) := by rw [Int.tmod_eq_emod_of_nonneg (by omega)]; rfl
  rw [ht, Bool.eq_iff_iff]; simp; omega
theorem tm1 {p : Nat} : ((p : Int).tmod 2 == 1) = decide (p % 2 = 1) := by
  have ht : (p : Int).tmod 2 = ((p % 2 : Nat) : Int) := by rw [Int.tmod_eq_emod_of_nonneg (by omega)]; rfl
  rw [ht, Bool.eq_iff_iff]; simp; omega

theorem apS_step {q p m c : Nat} {ss : List (List Int)} {s d : List Int} (h2 : ¬ m ≤ 1) (hx : xo p < m) (hs : ss[c]? = some s) :
    apS (q + 1) p m (ss.drop c) d = apS q (p / 2) ((m + 1) / 2) (ss.drop (c + 1)) (if p % 2 = 0 then pairS d s else pairS s d) := by
  have hg : (ss.drop c).getD 0 [] = s := by rw [List.getD_eq_getElem?_getD, List.getElem?_drop, Nat.add_zero, hs]; rfl
  rw [apS, if_neg h2, if_pos hx, hg, List.drop_drop]
theorem apS_skip {q p m : Nat} {ss : List (List Int)} {d : List Int} (h2 : ¬ m ≤ 1) (hx : ¬ xo p < m) : apS (q + 1) p m ss d = apS q (p / 2) ((m + 1) / 2) ss d := by rw [apS, if_neg h2, if_neg hx]
theorem apS_end {q p m : Nat} {ss : List (List Int)} {d : List Int} (h2 : m ≤ 1) : apS q p m ss d = d := by
  cases q with
  | zero => rfl
  | succ q => rw [apS, if_pos h2]
theorem ndS_end {q p m : Nat} (h2 : m ≤ 1) : ndS q p m = 0 := by
  cases q with
  | zero => rfl
  | succ q => rw [ndS, if_pos h2]
theorem ob84 {σ : List (Nat × Nat)} {ss : List (List Int)} {d g : List Int} {i n k : Nat} (h1 : sg 1 σ 1 = some 1) (h2 : sg 1 σ 2 = some 2) (h3 : sg 1 σ 3 = some 3) (h4 : sg 1 σ 4 = some 4) (h5 : sg 1 σ 5 = some 5) :
    F2 (fun (p q : Nat × AObj) => sg 1 σ q.1 = some p.1 ∧ RO (sg 1 σ) p.2 q.2) (([0,1,2,3,4,5] : List Nat).zip (v84 (flatD ss) (bytes d) (bytes g) i n k)) (o84b (flatD ss) (bytes d) (bytes g) i n k) :=
  .cons ⟨rfl, .ro (RV.all flatD_c2)⟩ (.cons ⟨h1, .cells (RV.all bytes_c2)⟩ (.cons ⟨h2, .pf (.slice rfl)⟩ (.cons ⟨h3, .cells (RV.all bytes_c2)⟩ (.cons ⟨h4, .cells (.cons (.closed rfl) .nil)⟩ (.cons ⟨h5, .cells (RV.all bytes_c2)⟩ .nil)))))
theorem ob85 {σ : List (Nat × Nat)} {ss : List (List Int)} {d g : List Int} {i n k : Nat} (h1 : sg 1 σ 1 = some 1) (h2 : sg 1 σ 2 = some 2) (h3 : sg 1 σ 3 = some 3) (h4 : sg 1 σ 4 = some 4) :
    F2 (fun (p q : Nat × AObj) => sg 1 σ q.1 = some p.1 ∧ RO (sg 1 σ) p.2 q.2) (([0,1,2,3,4] : List Nat).zip (v85 (flatD ss) (bytes d) (bytes g) i n k)) (o85b (flatD ss) (bytes d) (bytes g) i n k) :=
  .cons ⟨rfl, .ro (RV.all flatD_c2)⟩ (.cons ⟨h1, .cells (RV.all bytes_c2)⟩ (.cons ⟨h2, .pf (.slice rfl)⟩ (.cons ⟨h3, .cells (RV.all bytes_c2)⟩ (.cons ⟨h4, .cells (RV.all bytes_c2)⟩ .nil))))
theorem df84 {σ : List (Nat × Nat)} (h3 : sg 1 σ 3 = some 3) (h4 : sg 1 σ 4 = some 4) : F2 (fun (d d2 : FuncId × List Value) => d.1 = d2.1 ∧ F2 (RV (sg 1 σ)) d.2 d2.2) D84 D84 := .cons ⟨rfl, .cons (.ptr h3) (.cons (.ptr h4) .nil)⟩ .nil
end Go.Abs

namespace Go.Abs
open Go.Proofs
set_option maxRecDepth 1000000

theorem xor_cases {p m : Nat} (hp : p < m) : (p % 2 = 0 ∧ xo p = p + 1) ∨ (p % 2 = 1 ∧ xo p = p - 1 ∧ xo p < m) := by
  unfold xo
  by_cases h : p % 2 = 0
  · exact .inl ⟨h, if_pos h⟩
  · exact .inr ⟨by omega, if_neg h, by rw [if_neg h]; omega⟩

theorem round84 {i n p m c : Nat} {Q : APost} {ss : List (List Int)} {d0 d : List Int} {b : Value} (hs : ∀ d ∈ ss, d.length = 32) (hd : d.length = 32) (hp : p < m) (hm2 : 2 ≤ m) (hm63 : m ≤ 63) (hc : c ≤ 100) (hcl : xo p < m → c < ss.length)
    (hQ : ∀ T H D, (∃ c' d', d'.length = 32 ∧ ((xo p < m ∧ c' = c + 1 ∧ ∃ s, ss[c]? = some s ∧ d' = if p % 2 = 0 then pairS d s else pairS s d) ∨ (¬ xo p < m ∧ c' = c ∧ d' = d)) ∧ Nrm Tryz.prog 1 T H D (T84b c' (p / 2) ((m + 1) / 2)) (H84b (flatD ss) (bytes d0) (bytes d') i n ss.length) D84) → Q .normal T H D) :
    Awn Tryz.prog 1 (codeOf Tryz.f84 [1,1,1,1,0,1,0,0,1]) Q (T84c c p m b) (H84b (flatD ss) (bytes d0) (bytes d) i n ss.length) D84 := by
  have hh := pl_half (p := p) (by omega)
  have hn := nl_half (m := m) (by omega)
  have hw := wrap_i1 (i := c) (by omega)
  have hx := xoC_ok (p := p) (by omega)
  have hdf : dgf (fn d) = d := dgf_of hd
  by_cases h : xo p < m
  · obtain ⟨hl1, hl2⟩ := getD_32 hs (i := c) (hcl h)
    generalize ss.getD c [] = s at *
    have hld := flatD_at hs hl2
    have hsf : dgf (fn s) = s := dgf_of hl1
    have hY : ∀ b, (p % 2 = 0 ↔ b = true) → Y84 c ss.length p m (xo p) b := fun b hb => ⟨⟨by omega, by have := hcl h; omega⟩, by rw [tm0]; congr 2; cases b <;> simp_all, by have := hcl h; rw [show ((c : Int) == (ss.length : Int)) = false by simp; omega], by rw [decide_eq_true (by omega)], hx, trivial⟩
    by_cases hpar : p % 2 = 0
    · have hpf : dgf (fn (pairS d s)) = pairS d s := dgf_of (sumS_len _ _)
      have hr := r84f (flatD ss) (bytes d0) (fn d) (fn s) (fn (pairS d s)) i n ss.length c p m (xo p) b
      rw [hdf, hsf, hpf, cw, hw, pw, hh, nw, hn] at hr
      refine pieceE hm pCall_sound (oo84a_sound _ _ _ _ _ _) hr ⟨⟨⟨hd, hl1, rfl, rfl⟩, rfl⟩, hld, hY true (by simp [hpar])⟩ rfl 6 [(1, 1), (2, 2), (3, 3), (4, 4), (5, 5)] rfl (ob84 rfl rfl rfl rfl rfl) (df84 rfl rfl) ?_
      intro T H D hN
      exact hQ T H D ⟨c + 1, pairS d s, sumS_len _ _, .inl ⟨h, rfl, s, hl2, by rw [if_pos hpar]⟩, hN⟩
    · have hpf : dgf (fn (pairS s d)) = pairS s d := dgf_of (sumS_len _ _)
      have hr := r84g (flatD ss) (bytes d0) (fn d) (fn s) (fn (pairS s d)) i n ss.length c p m (xo p) b
      rw [hdf, hsf, hpf, cw, hw, pw, hh, nw, hn] at hr
      refine pieceE hm pCall_sound (oo84a_sound _ _ _ _ _ _) hr ⟨⟨⟨hl1, hd, rfl, rfl⟩, rfl⟩, hld, hY false (by simp [hpar])⟩ rfl 6 [(1, 1), (2, 2), (3, 3), (4, 4), (5, 5)] rfl (ob84 rfl rfl rfl rfl rfl) (df84 rfl rfl) ?_
      intro T H D hN
      exact hQ T H D ⟨c + 1, pairS s d, sumS_len _ _, .inl ⟨h, rfl, s, hl2, by rw [if_neg hpar]⟩, hN⟩
  · have hr := r84h (flatD ss) (bytes d0) (bytes d) i n ss.length c p m (xo p) b
    rw [pw, hh, nw, hn] at hr
    refine pieceE hm pCall_sound (oo84a_sound _ _ _ _ _ _) hr ⟨by rw [decide_eq_false (by omega)], hx, trivial⟩ rfl 6 [(1, 1), (2, 2), (3, 3), (4, 4), (5, 5)] rfl (ob84 rfl rfl rfl rfl rfl) (df84 rfl rfl) ?_
    intro T H D hN
    exact hQ T H D ⟨c, d, hd, .inr ⟨h, rfl, rfl⟩, hN⟩

theorem does84 {ss : List (List Int)} {d : List Int} {i n : Nat} (hs : ∀ d ∈ ss, d.length = 32) (hd : d.length = 32) (h1 : 1 ≤ n) (hb : n ≤ 63) (hi : i < n) (hnd : ndS n i n = ss.length) (hsl : ss.length ≤ 100) :
    Does Tryz.prog 84 [dig d, pv i n (sl 0 ss.length)] ⟨1, [(0, .ro (flatD ss))]⟩ (.tuple #[dig (applyS i n ss d), i64 0]) ⟨1, [(0, .ro (flatD ss))]⟩ := by
  refine val_of_awp Tryz.func84 (c := codeOf Tryz.f84 []) rfl rt_c2 (awp_of_awn (n := 1) ?_ (Nat.le_refl _))
  have hdf : dgf (fn d) = d := dgf_of hd
  have hnf : dgf (fn (nodeS d)) = nodeS d := dgf_of (nodeS_len d)
  have hra := r84a (flatD ss) (fn d) n i ss.length
  have hrc := r84c (flatD ss) (fn d) (fn (nodeS d)) n i ss.length (.bool false)
  rw [hdf] at hra
  rw [hdf, hnf] at hrc
  have hro : ∀ (σ : Nat → Option Nat), RO σ (.ro (flatD ss)) (.ro (flatD ss)) := fun σ => .ro (RV.all flatD_c2)
  refine pieceS hm pCall_sound noOO_sound 1 hra rfl trivial rfl 5 [(1, 1), (2, 2), (3, 3), (4, 4)] (os2 := o84 (flatD ss) (bytes d) i n ss.length) rfl
    (.cons ⟨rfl, hro _⟩ (.cons ⟨rfl, .cells (RV.all bytes_c2)⟩ (.cons ⟨rfl, .pf (.slice rfl)⟩ (.cons ⟨rfl, .cells (RV.all bytes_c2)⟩ (.cons ⟨rfl, .cells (.cons (.closed rfl) .nil)⟩ .nil))))) (df84 rfl rfl) ?_
  refine awn_seq (x := codeOf Tryz.f84 [1,1,0]) (y := codeOf Tryz.f84 [1,1,1]) ?_
  refine pieceT hm pCall_sound oo84_sound 0 (r84b (flatD ss) (bytes d) n i ss.length) rfl (c84_ok h1 hb hi) rfl ?_
  refine awn_cond (c := .tmp 30) (b := false) rfl rfl (awn_skip ?_)
  refine pieceS hm pCall_sound (ndP131 _ _) 0 hrc rfl ⟨rfl, rfl, rfl, ⟨hd, rfl, rfl⟩, trivial⟩ rfl 6 [(1, 1), (2, 2), (3, 3), (4, 4), (5, 5)] rfl (ob84 rfl rfl rfl rfl rfl) (df84 rfl rfl) ?_
  refine awn_seq (x := codeOf Tryz.f84 [1,1,1,1,0]) (y := codeOf Tryz.f84 [1,1,1,1,1]) ?_
  refine pieceT hm pCall_sound noOO_sound 0 (r84d (flatD ss) (bytes d) (bytes (nodeS d)) n i ss.length 0 i) rfl trivial rfl ?_
  refine awn_block (c := codeOf Tryz.f84 [1,1,1,1,0,1,0]) (awn_loop (c := codeOf Tryz.f84 [1,1,1,1,0,1,0,0])
    (fun k T H D => ∃ (p m q c : Nat) (g : List Int), m = k ∧ 1 ≤ m ∧ m ≤ 63 ∧ m ≤ q + 1 ∧ p < m ∧ c + ndS q p m = ss.length ∧ apS q p m (ss.drop c) g = apS n i n ss (nodeS d) ∧ g.length = 32 ∧ T = T84b c p m ∧ H = H84b (flatD ss) (bytes d) (bytes g) i n ss.length ∧ D = D84)
    n ⟨_, _, _, .refl _ _ _ _ _, i, n, n, 0, nodeS d, rfl, h1, hb, by omega, hi, by omega, rfl, nodeS_len d, rfl, rfl, rfl⟩ ?_)
  rintro k T H D ⟨p, m, q, c, g, rfl, hm1, hm63, hq, hp, hc, hap, hg, rfl, rfl, rfl⟩
  refine awn_seq (x := codeOf Tryz.f84 [1,1,1,1,0,1,0,0,0]) (y := codeOf Tryz.f84 [1,1,1,1,0,1,0,0,1]) ?_
  refine pieceT hm pCall_sound noOO_sound 0 (r84e _ _ c p m) rfl trivial rfl ?_
  refine awn_cond (c := .tmp 39) (b := decide ((m : Int) > 1)) rfl rfl ?_
  by_cases h2 : m ≤ 1
  · rw [decide_eq_false (by omega)]
    refine awn_exit ?_
    rw [ndS_end h2] at hc
    rw [apS_end h2] at hap
    have hgf : dgf (fn g) = g := dgf_of hg
    have hxf : dgf (fn (applyS i n ss d)) = applyS i n ss d := dgf_of (applyS_len _ _ _ _)
    have hr := r84i (flatD ss) (bytes d) (fn g) (fn (applyS i n ss d)) i n ss.length c p m (.bool false)
    rw [hgf, hxf] at hr
    refine pieceF hm pCall_sound (oo84z_sound _ _ _) hr ⟨⟨hg, rfl, rfl, hb, by rw [applyS, hap]⟩, by rw [show ((c : Int) != (ss.length : Int)) = false by simp; omega], trivial⟩ ?_
    intro e T H he hr hn hgt
    cases tag1 he
    exact ⟨.inr rfl, rfl, _, hr, rfl, keep1 (by rw [hn]; show 1 ≤ 6; omega) (hgt (0, _) (.head _))⟩
  · rw [decide_eq_true (by omega)]
    refine awn_skip ?_
    obtain ⟨q', rfl⟩ : ∃ q', q = q' + 1 := ⟨q - 1, by omega⟩
    rw [ndS, if_neg h2] at hc
    refine round84 hs hg hp (by omega) hm63 (by omega) (fun hx => by rw [if_pos hx] at hc; omega) ?_
    rintro T H D ⟨c', g', hg', hcase, hN⟩
    rcases hcase with ⟨hx, rfl, s, hs', rfl⟩ | ⟨hx, rfl, rfl⟩
    · rw [apS_step h2 hx hs'] at hap
      rw [if_pos hx] at hc
      exact ⟨(m + 1) / 2, by omega, _, _, _, hN, p / 2, (m + 1) / 2, q', c + 1, _, rfl, by omega, by omega, by omega, by omega, by omega, hap, hg', rfl, rfl, rfl⟩
    · rw [apS_skip h2 hx] at hap
      rw [if_neg hx] at hc
      exact ⟨(m + 1) / 2, by omega, _, _, _, hN, p / 2, (m + 1) / 2, q', _, _, rfl, by omega, by omega, by omega, by omega, by omega, hap, hg', rfl, rfl, rfl⟩

theorem round85 {i n p m c : Nat} {Q : APost} {ss : List (List Int)} {d0 d : List Int} {b : Value} (hs : ∀ d ∈ ss, d.length = 32) (hd : d.length = 32) (hp : p < m) (hm2 : 2 ≤ m) (hm63 : m ≤ 63) (hc : c ≤ 100) (hcl : xo p < m → c < ss.length)
    (hQ : ∀ T H D, (∃ c' d', d'.length = 32 ∧ ((xo p < m ∧ c' = c + 1 ∧ ∃ s, ss[c]? = some s ∧ d' = if p % 2 = 0 then pairS d s else pairS s d) ∨ (¬ xo p < m ∧ c' = c ∧ d' = d)) ∧ Nrm Tryz.prog 1 T H D (T85b c' (p / 2) ((m + 1) / 2)) (H85b (flatD ss) (bytes d0) (bytes d') i n ss.length) []) → Q .normal T H D) :
    Awn Tryz.prog 1 (codeOf Tryz.f85 [1,1,1,1,1,0,1,0,0,1]) Q (T85c c p m b) (H85b (flatD ss) (bytes d0) (bytes d) i n ss.length) [] := by
  have hh := pl_half (p := p) (by omega)
  have hn := nl_half (m := m) (by omega)
  have hw := wrap_i1 (i := c) (by omega)
  have hw2 : IntKind.i64.wrap ((p : Int) + 1) = (p : Int) + 1 := wrapI (by omega) (by omega)
  have hdf : dgf (fn d) = d := dgf_of hd
  rcases xor_cases hp with ⟨hpar, hxe⟩ | ⟨hpar, hxe, hxl⟩
  · have hB : B85 p false := by rw [B85, tm1]; congr 2; simp; omega
    by_cases h : xo p < m
    · obtain ⟨hl1, hl2⟩ := getD_32 hs (i := c) (hcl h)
      generalize ss.getD c [] = s at *
      have hld := flatD_at hs hl2
      have hsf : dgf (fn s) = s := dgf_of hl1
      have hpf : dgf (fn (pairS d s)) = pairS d s := dgf_of (sumS_len _ _)
      have hr := r85g (flatD ss) (bytes d0) (fn d) (fn s) (fn (pairS d s)) i n ss.length c p m b
      rw [hdf, hsf, hpf, cw, hw, pw, hh, nw, hn] at hr
      have hcl' := hcl h
      refine pieceE hm pCall_sound (oo85a_sound _ _ _ _ _) hr ⟨⟨⟨hd, hl1, rfl, rfl⟩, rfl⟩, hld, ⟨by omega, by omega⟩, hB, by rw [decide_eq_false (by omega)], by rw [hw2, decide_eq_true (by omega)], hB, trivial⟩ rfl 5 [(1, 1), (2, 2), (3, 3), (4, 4)] rfl (ob85 rfl rfl rfl rfl) .nil ?_
      intro T H D hN
      exact hQ T H D ⟨c + 1, pairS d s, sumS_len _ _, .inl ⟨h, rfl, s, hl2, by rw [if_pos hpar]⟩, hN⟩
    · have hr := r85h (flatD ss) (bytes d0) (bytes d) i n ss.length c p m b
      rw [pw, hh, nw, hn] at hr
      refine pieceE hm pCall_sound (oo85a_sound _ _ _ _ _) hr ⟨by rw [hw2, decide_eq_false (by omega)], hB, trivial⟩ rfl 5 [(1, 1), (2, 2), (3, 3), (4, 4)] rfl (ob85 rfl rfl rfl rfl) .nil ?_
      intro T H D hN
      exact hQ T H D ⟨c, d, hd, .inr ⟨h, rfl, rfl⟩, hN⟩
  · have hB : B85 p true := by rw [B85, tm1]; congr 2; simp; omega
    obtain ⟨hl1, hl2⟩ := getD_32 hs (i := c) (hcl hxl)
    generalize ss.getD c [] = s at *
    have hld := flatD_at hs hl2
    have hsf : dgf (fn s) = s := dgf_of hl1
    have hpf : dgf (fn (pairS s d)) = pairS s d := dgf_of (sumS_len _ _)
    have hr := r85f (flatD ss) (bytes d0) (fn d) (fn s) (fn (pairS s d)) i n ss.length c p m b
    rw [hdf, hsf, hpf, cw, hw, pw, hh, nw, hn] at hr
    have hcl' := hcl hxl
    refine pieceE hm pCall_sound (oo85a_sound _ _ _ _ _) hr ⟨⟨⟨hl1, hd, rfl, rfl⟩, rfl⟩, hld, ⟨by omega, by omega⟩, hB, by rw [decide_eq_false (by omega)], hB, trivial⟩ rfl 5 [(1, 1), (2, 2), (3, 3), (4, 4)] rfl (ob85 rfl rfl rfl rfl) .nil ?_
    intro T H D hN
    exact hQ T H D ⟨c + 1, pairS s d, sumS_len _ _, .inl ⟨hxl, rfl, s, hl2, by rw [if_neg (by omega)]⟩, hN⟩

theorem does85 {ss : List (List Int)} {d : List Int} {i n : Nat} (hs : ∀ d ∈ ss, d.length = 32) (hd : d.length = 32) (h1 : 1 ≤ n) (hb : n ≤ 63) (hi : i < n) (hnd : ndS n i n = ss.length) (hsl : ss.length ≤ 100) :
    Does Tryz.prog 85 [dig d, pv i n (sl 0 ss.length)] ⟨1, [(0, .ro (flatD ss))]⟩ (.tuple #[dig (applyS i n ss d), i64 0]) ⟨1, [(0, .ro (flatD ss))]⟩ := by
  refine val_of_awp Tryz.func85 (c := codeOf Tryz.f85 []) rfl rt_c2 (awp_of_awn (n := 1) ?_ (Nat.le_refl _))
  have hdf : dgf (fn d) = d := dgf_of hd
  have hnf : dgf (fn (nodeS d)) = nodeS d := dgf_of (nodeS_len d)
  have hra := r85a (flatD ss) (fn d) n i ss.length
  have hrc := r85c (flatD ss) (fn d) (fn (nodeS d)) n i ss.length (.bool false)
  rw [hdf] at hra
  rw [hdf, hnf] at hrc
  have hro : ∀ (σ : Nat → Option Nat), RO σ (.ro (flatD ss)) (.ro (flatD ss)) := fun σ => .ro (RV.all flatD_c2)
  refine pieceS hm pCall_sound noOO_sound 0 hra rfl trivial rfl 4 [(1, 1), (2, 2), (3, 3)] (os2 := o85 (flatD ss) (bytes d) i n ss.length) rfl
    (.cons ⟨rfl, hro _⟩ (.cons ⟨rfl, .cells (RV.all bytes_c2)⟩ (.cons ⟨rfl, .pf (.slice rfl)⟩ (.cons ⟨rfl, .cells (RV.all bytes_c2)⟩ .nil)))) .nil ?_
  refine awn_seq (x := codeOf Tryz.f85 [1,0]) (y := codeOf Tryz.f85 [1,1]) ?_
  refine pieceT hm pCall_sound oo85_sound 0 (r85b (flatD ss) (bytes d) n i ss.length) rfl (c84_ok h1 hb hi) rfl ?_
  refine awn_cond (c := .tmp 29) (b := false) rfl rfl (awn_skip ?_)
  refine pieceS hm pCall_sound (callO_sound (nd80 _ _)) 2 hrc rfl ⟨⟨hd, rfl, rfl⟩, trivial⟩ rfl 5 [(1, 1), (2, 2), (3, 3), (4, 4)] rfl (ob85 rfl rfl rfl rfl) .nil ?_
  refine awn_seq (x := codeOf Tryz.f85 [1,1,1,1,1,0]) (y := codeOf Tryz.f85 [1,1,1,1,1,1]) ?_
  refine pieceT hm pCall_sound noOO_sound 0 (r85d (flatD ss) (bytes d) (bytes (nodeS d)) n i ss.length 0 i) rfl trivial rfl ?_
  refine awn_block (c := codeOf Tryz.f85 [1,1,1,1,1,0,1,0]) (awn_loop (c := codeOf Tryz.f85 [1,1,1,1,1,0,1,0,0])
    (fun k T H D => ∃ (p m q c : Nat) (g : List Int), m = k ∧ 1 ≤ m ∧ m ≤ 63 ∧ m ≤ q + 1 ∧ p < m ∧ c + ndS q p m = ss.length ∧ apS q p m (ss.drop c) g = apS n i n ss (nodeS d) ∧ g.length = 32 ∧ T = T85b c p m ∧ H = H85b (flatD ss) (bytes d) (bytes g) i n ss.length ∧ D = [])
    n ⟨_, _, _, .refl _ _ _ _ _, i, n, n, 0, nodeS d, rfl, h1, hb, by omega, hi, by omega, rfl, nodeS_len d, rfl, rfl, rfl⟩ ?_)
  rintro k T H D ⟨p, m, q, c, g, rfl, hm1, hm63, hq, hp, hc, hap, hg, rfl, rfl, rfl⟩
  refine awn_seq (x := codeOf Tryz.f85 [1,1,1,1,1,0,1,0,0,0]) (y := codeOf Tryz.f85 [1,1,1,1,1,0,1,0,0,1]) ?_
  refine pieceT hm pCall_sound noOO_sound 0 (r85e _ _ c p m) rfl trivial rfl ?_
  refine awn_cond (c := .tmp 38) (b := decide ((m : Int) > 1)) rfl rfl ?_
  by_cases h2 : m ≤ 1
  · rw [decide_eq_false (by omega)]
    refine awn_exit ?_
    rw [ndS_end h2] at hc
    rw [apS_end h2] at hap
    have hgf : dgf (fn g) = g := dgf_of hg
    have hxf : dgf (fn (applyS i n ss d)) = applyS i n ss d := dgf_of (applyS_len _ _ _ _)
    have hr := r85i (flatD ss) (bytes d) (fn g) (fn (applyS i n ss d)) i n ss.length c p m (.bool false)
    rw [hgf, hxf] at hr
    refine pieceF hm pCall_sound (oo85z_sound _ _ _) hr ⟨⟨hg, rfl, rfl, hb, by rw [applyS, hap]⟩, by rw [decide_eq_false (by omega)], trivial⟩ ?_
    intro e T H he hr hn hgt
    cases tag1 he
    exact ⟨.inr rfl, rfl, _, hr, rfl, keep1 (by rw [hn]; show 1 ≤ 5; omega) (hgt (0, _) (.head _))⟩
  · rw [decide_eq_true (by omega)]
    refine awn_skip ?_
    obtain ⟨q', rfl⟩ : ∃ q', q = q' + 1 := ⟨q - 1, by omega⟩
    rw [ndS, if_neg h2] at hc
    refine round85 hs hg hp (by omega) hm63 (by omega) (fun hx => by rw [if_pos hx] at hc; omega) ?_
    rintro T H D ⟨c', g', hg', hcase, hN⟩
    rcases hcase with ⟨hx, rfl, s, hs', rfl⟩ | ⟨hx, rfl, rfl⟩
    · rw [apS_step h2 hx hs'] at hap
      rw [if_pos hx] at hc
      exact ⟨(m + 1) / 2, by omega, _, _, _, hN, p / 2, (m + 1) / 2, q', c + 1, _, rfl, by omega, by omega, by omega, by omega, by omega, hap, hg', rfl, rfl, rfl⟩
    · rw [apS_skip h2 hx] at hap
      rw [if_neg hx] at hc
      exact ⟨(m + 1) / 2, by omega, _, _, _, hN, p / 2, (m + 1) / 2, q', _, _, rfl, by omega, by omega, by omega, by omega, by omega, hap, hg', rfl, rfl, rfl⟩

theorem F2.appR {α β : Type} {R : α → β → Prop} {a c : List α} {b d : List β} (h1 : F2 R a b) (h2 : F2 R c d) : F2 R (a ++ c) (b ++ d) := by
  induction h1 with
  | nil => exact h2
  | cons h _ ih => exact .cons h ih
theorem imp_zero {H : Heap} {r : List Value} (hr : ∀ v ∈ r, c2 v = true) : Imp Tryz.prog (r ++ [pv 0 0 nilS]) H (r ++ [pv 0 0 nilS]) ⟨0, []⟩ :=
  imp_gen (fun _ => none) (fun _ _ h => by cases h) (F2.appR (RI.all hr) (.cons (RI.agg (.cons (.closed rfl) (.cons (.closed rfl) (.cons (.closed rfl) .nil)))) .nil)) (fun p hp => by cases hp)
theorem dig1_c2 {d : List Int} : ∀ v ∈ [dig d], c2 v = true := fun v hv => by cases List.mem_singleton.1 hv; exact dig_c2 d
theorem does84z (d : List Int) (hd : d.length = 32) (H : Heap) : Does Tryz.prog 84 [dig d, pv 0 0 nilS] H (.tuple #[dig zl, i64 1]) H := by
  refine frame_val (H' := ⟨0, []⟩) (val_of_awp Tryz.func84 (c := codeOf Tryz.f84 []) rfl rt_c2 (awp_of_awn (n := 0) ?_ (Nat.le_refl _))) rt_c2 (imp_zero (r := [dig d]) dig1_c2)
  have hr := r84z (fn d)
  rw [show dgf (fn d) = d from dgf_of hd] at hr
  refine pieceF hm pCall_sound noOO_sound hr trivial ?_
  intro e T H he hr hn hg
  cases tag1 he
  exact ⟨.inr rfl, rfl, _, hr, rfl, keep0 _⟩
theorem does85z (d : List Int) (hd : d.length = 32) (H : Heap) : Does Tryz.prog 85 [dig d, pv 0 0 nilS] H (.tuple #[dig zl, i64 1]) H := by
  refine frame_val (H' := ⟨0, []⟩) (val_of_awp Tryz.func85 (c := codeOf Tryz.f85 []) rfl rt_c2 (awp_of_awn (n := 0) ?_ (Nat.le_refl _))) rt_c2 (imp_zero (r := [dig d]) dig1_c2)
  have hr := r85z (fn d)
  rw [show dgf (fn d) = d from dgf_of hd] at hr
  refine pieceF hm pCall_sound noOO_sound hr trivial ?_
  intro e T H he hr hn hg
  cases tag1 he
  exact ⟨.inr rfl, rfl, _, hr, rfl, keep0 _⟩
/-- Proofs applied, by contract. -/
structure ApC (i n : Nat) (ss : List (List Int)) (d x : List Int) (v : Value) (a b : Int) (k off : Nat) (cs : List Value) : Prop where
  hd : d.length = 32
  hv : v = dig d
  hs : SliC ss k off cs
  ha : a = (i : Int)
  hb : b = (n : Int)
  n1 : 1 ≤ n
  n2 : n ≤ 63
  hi : i < n
  nd : ndS n i n = ss.length
  hl : ss.length ≤ 100
  hx : x = applyS i n ss d
def apG (i n : Nat) (ss : List (List Int)) (d x : List Int) : List Value → Heap → Option CallR := fun args H => match args with
  | [v, .agg ⟨[.int .i64 a, .int .i64 b, .slice (some ⟨id, off, none⟩) k _]⟩] => (match H.row id with
    | some cs => some (.same (.tuple #[dig x, i64 0]) (ApC i n ss d x v a b k off cs))
    | none => none)
  | [v, .agg ⟨[.int .i64 0, .int .i64 0, .slice none 0 0]⟩] => some (.same (.tuple #[dig zl, i64 1]) (d.length = 32 ∧ v = dig d))
  | _ => none
theorem imp_proof {H : Heap} {r : List Value} {i n id off k c : Nat} {ss : List (List Int)} {cs : List Value} (hr : ∀ v ∈ r, c2 v = true) (hrow : H.row id = some cs) (h : SliC ss k off cs) : Imp Tryz.prog (r ++ [pv i n (.slice (some ⟨id, off, none⟩) k c)]) H (r ++ [pv i n (sl 0 ss.length)]) ⟨1, [(0, .ro (flatD ss))]⟩ := by
  obtain ⟨g1, rfl, g3, g4⟩ := h
  have hfl := flatD_len g1
  refine imp_gen (fun j => if j = 0 then some (id, off, c) else none) ?_ (F2.appR (RI.all hr) (.cons (RI.agg (.cons (.closed rfl) (.cons (.closed rfl) (.cons (RI.slice rfl) .nil)))) .nil)) ?_
  · intro j x hj
    by_cases h0 : j = 0
    · omega
    · simp [h0] at hj
  · intro p hp
    cases List.mem_singleton.1 hp
    exact .inr ⟨id, off, c, cs, flatD ss, flatD ss, rfl, hrow, rfl, by rw [hfl]; exact g4, RI.all flatD_c2, by rw [hfl]; exact g3⟩
theorem apG_key (i n : Nat) (ss : List (List Int)) (d x : List Int) {k : FuncId} (hk : (∀ d ∈ ss, d.length = 32) → d.length = 32 → 1 ≤ n → n ≤ 63 → i < n → ndS n i n = ss.length → ss.length ≤ 100 → Does Tryz.prog k [dig d, pv i n (sl 0 ss.length)] ⟨1, [(0, .ro (flatD ss))]⟩ (.tuple #[dig (applyS i n ss d), i64 0]) ⟨1, [(0, .ro (flatD ss))]⟩)
    (hz : d.length = 32 → ∀ H, Does Tryz.prog k [dig d, pv 0 0 nilS] H (.tuple #[dig zl, i64 1]) H) : SoundC Tryz.prog (oneC k (apG i n ss d x)) := oneC_sound fun args H r h => by
  unfold apG at h
  split at h
  · rename_i v a b id off k' c
    split at h
    case h_2 => cases h
    rename_i cs hr
    cases h
    intro hc
    obtain ⟨h1, rfl, h3, rfl, rfl, h6, h7, h8, h9, h10, rfl⟩ := hc
    exact frame_val (hk h3.1 h1 h6 h7 h8 h9 h10) rt_c2 (imp_proof (r := [dig d]) dig1_c2 hr h3)
  · cases h
    rintro ⟨h1, rfl⟩
    exact hz h1 H
  · cases h
theorem ap84 (i n : Nat) (ss : List (List Int)) (d x : List Int) : SoundC Tryz.prog (oneC 84 (apG i n ss d x)) := apG_key i n ss d x (fun h1 h2 h3 h4 h5 h6 h7 => does84 h1 h2 h3 h4 h5 h6 h7) (fun h => does84z d h)
theorem ap85 (i n : Nat) (ss : List (List Int)) (d x : List Int) : SoundC Tryz.prog (oneC 85 (apG i n ss d x)) := apG_key i n ss d x (fun h1 h2 h3 h4 h5 h6 h7 => does85 h1 h2 h3 h4 h5 h6 h7) (fun h => does85z d h)
end Go.Abs

namespace Go.Abs
open Go.Proofs
set_option maxRecDepth 1000000

/-- A proof and an error. -/
def ctQ (e i n : Int) (s : Value) : Value := .tuple #[.agg #[i64 i, i64 n, s], i64 e]
theorem ctQ_mk (e i n : Int) (E : Env) (s s' : Value) (h : VRel E s s') : VRel E (ctQ e i n s) (ctQ e i n s') :=
  .tuple_iff (.of_lt rfl fun j hj => by
    have : j = 0 ∨ j = 1 := by simp at hj; omega
    rcases this with rfl | rfl
    · exact .agg' (.of_lt rfl fun q hq => by
        have : q = 0 ∨ q = 1 ∨ q = 2 := by simp at hq; omega
        rcases this with rfl | rfl | rfl
        · exact .int _ _
        · exact .int _ _
        · exact h)
    · exact .int _ _)
theorem ctQ_inv (e i n : Int) (E : Env) (s v' : Value) (h : VRel E (ctQ e i n s) v') : ∃ s', v' = ctQ e i n s' ∧ VRel E s s' := by
  unfold ctQ at h
  generalize hx : (Value.tuple #[.agg #[i64 i, i64 n, s], i64 e]) = x at h
  cases h with
  | tuple0 => simp at hx
  | tuple a a' hs ha =>
    cases hx
    have hs2 : a'.size = 2 := by simpa using hs.symm
    have h0 := ha 0 (by simp)
    have h1 := ha 1 (by simp)
    have e0 : a'.getD 0 undef = a'[0] := by simp only [Array.getD, hs2]; simp
    have e1 : a'.getD 1 undef = a'[1] := by simp only [Array.getD, hs2]; simp
    rw [e0] at h0
    rw [e1] at h1
    have ea : a' = #[a'[0], a'[1]] := by
      apply Array.ext (by simpa using hs2)
      intro q q1 q2
      have : q = 0 ∨ q = 1 := by simp at q2; omega
      rcases this with rfl | rfl <;> rfl
    generalize a'[0] = x0 at h0 ea
    generalize a'[1] = x1 at h1 ea
    subst ea
    have h1' : VRel E (i64 e) x1 := h1
    cases h1'
    have h0' : VRel E (.agg #[i64 i, i64 n, s]) x0 := h0
    cases h0' with
    | agg _ b hb1 hb2 =>
      have hb3 : b.size = 3 := by simpa using hb1.symm
      have g0 := hb2 0
      have g1 := hb2 1
      have g2 := hb2 2
      have f0 : b.getD 0 undef = b[0] := by simp only [Array.getD, hb3]; simp
      have f1 : b.getD 1 undef = b[1] := by simp only [Array.getD, hb3]; simp
      have f2 : b.getD 2 undef = b[2] := by simp only [Array.getD, hb3]; simp
      rw [f0] at g0
      rw [f1] at g1
      rw [f2] at g2
      have eb : b = #[b[0], b[1], b[2]] := by
        apply Array.ext (by simpa using hb3)
        intro q q1 q2
        have : q = 0 ∨ q = 1 ∨ q = 2 := by simp at q2; omega
        rcases this with rfl | rfl | rfl <;> rfl
      generalize b[0] = y0 at g0 eb
      generalize b[1] = y1 at g1 eb
      generalize b[2] = y2 at g2 eb
      subst eb
      have g0' : VRel E (i64 i) y0 := g0
      have g1' : VRel E (i64 n) y1 := g1
      have g2' : VRel E s y2 := g2
      cases g0'
      cases g1'
      exact ⟨y2, rfl, g2'⟩
  | junk => cases hx
  | bool => cases hx
  | int => cases hx
  | string => cases hx
  | ptrNil => cases hx
  | ptr => cases hx
  | sliceNil => cases hx
  | slice => cases hx
  | anon => cases hx
  | anonE => cases hx
  | yld => cases hx
  | mapNil => cases hx
  | map => cases hx
  | func => cases hx
  | nilFunc => cases hx
  | iface => cases hx
  | nilIface => cases hx
  | agg => cases hx

abbrev zpV : Value := .tuple #[pv 0 0 nilS, i64 10]
theorem zpV_inv {E : Env} {v' : Value} (h : VRel E zpV v') : v' = zpV := by
  obtain ⟨s', rfl, hs⟩ := ctQ_inv 10 0 0 E nilS v' h
  rw [eq_of_c2 hs rfl]; rfl
theorem zpV_mk {E : Env} : VRel E zpV zpV := ctQ_mk 10 0 0 E nilS nilS (.of_c2 rfl)

theorem frame_cl {P : Program} {f : FuncId} {args args0 : List Value} {H H0 H' : Heap} {v : Value} (h : Does P f args0 H0 v H') (hinv : ∀ E v', VRel E v v' → v' = v) (hmk : ∀ E, VRel E v v) (hi : Imp P args H args0 H0) : Does P f args H v H := by
  intro B E w args' hH hA
  obtain ⟨E0, h0, ha0⟩ := hi B E w args' hH hA
  refine (h w.heap.size E0 w args' h0 ha0).mono ?_
  rintro e w' ⟨E', v', h1, h2, h3, h4, h5⟩
  exact ⟨E, v', .refl E, hH.kept h4, by rw [hinv _ _ h3]; exact hmk E, h4.mono hH.base, h5⟩
theorem cl_of_awp {P : Program} {f : FuncId} {fn : Func} {c : Code} (hf : P.funcs[f]? = some fn) (hb : fn.body = some c) {args : List Value} {H : Heap} {v : Value} (hinv : ∀ E v', VRel E v v' → v' = v) (hmk : ∀ E, VRel E v v)
    (h : Awp P c (fun ex T' H' D' => (ex = .normal ∨ ex = .ret) ∧ (D'.all fun d => quietDefer P d.1 && callable P d.1) = true ∧ ∃ u, resA P fn T' H' = some u ∧ u = v ∧ Keep H H') (args ++ List.replicate (fn.ntmps - args.length) undef) H []) :
    Does P f args H v H := by
  intro B E w args' hH hA
  refine (awp_weak (R := fun u H' => u = v ∧ Keep H H') hf hb h B E w args' hH hA).mono ?_
  rintro e w' ⟨E', u, v', H', ⟨rfl, hk⟩, h1, h2, h3, h4, h5⟩
  exact ⟨E, v', .refl E, hH.back h1 h2 hk, by rw [hinv _ _ h3]; exact hmk E, h4, h5⟩

-- verified
theorem eqd_ok {x y : Nat → Int} {b : Bool} (h : b = true ↔ dgf x = dgf y) : EqdC (bytes (dgf x)).toArray (bytes (dgf y)).toArray b := by
  refine ⟨by simp [bytes_len, dgf_len], by simp [bytes_len, dgf_len], fun v hv => bytes_u8 v (by simpa using hv), fun v hv => bytes_u8 v (by simpa using hv), h.trans ⟨fun e => by rw [e], fun e => ?_⟩⟩
  have e1 : bytes (dgf x) = bytes (dgf y) := by simpa using e
  have := congrArg unb e1
  simpa [unb_bytes] using this
theorem dig2_c2 {r d : List Int} : ∀ v ∈ [dig r, dig d], c2 v = true := fun v hv => by
  rcases List.mem_cons.1 hv with rfl | hv
  · exact dig_c2 r
  · cases List.mem_singleton.1 hv; exact dig_c2 d
noncomputable def oo44 (i n : Nat) (ss : List (List Int)) (f h : Nat → Int) (b : Bool) : OpO := orO (callO Tryz.prog (oneC 84 (apG i n ss (dgf f) (dgf h)))) (eqdO 20 b)
theorem r44 (cs : List Value) (f g h : Nat → Int) (n i k : Nat) (ss : List (List Int)) (b : Bool) : (ex3 Tryz.prog pCall (oo44 i n ss f h b) 60 (codeOf Tryz.f44 []) ⟨⟨[dig (dgf g), dig (dgf f), pv i n (sl 0 k)] ++ List.replicate 19 undef, ⟨1, [(0, .ro cs)]⟩, []⟩, True⟩).map (fin3 Tryz.prog Tryz.f44 [0])
  = some (⟨1, some (.bool b), 5, [.ro cs], []⟩, EqdC (bytes (dgf h)).toArray (bytes (dgf g)).toArray b ∧ ApC i n ss (dgf f) (dgf h) (dig (dgf f)) (i : Int) (n : Int) k 0 cs ∧ True) := by kernel_rfl
theorem r44z (f g : Nat → Int) : (ex3 Tryz.prog pCall (callO Tryz.prog (oneC 84 (apG 0 0 [] (dgf f) []))) 60 (codeOf Tryz.f44 []) ⟨⟨[dig (dgf g), dig (dgf f), pv 0 0 nilS] ++ List.replicate 19 undef, ⟨0, []⟩, []⟩, True⟩).map (fin3 Tryz.prog Tryz.f44 [])
  = some (⟨1, some (.bool false), 4, [], []⟩, ((dgf f).length = 32 ∧ dig (dgf f) = dig (dgf f)) ∧ True) := by kernel_rfl
theorem does44 {ss : List (List Int)} {r d : List Int} {i n : Nat} {b : Bool} (hs : ∀ d ∈ ss, d.length = 32) (hr : r.length = 32) (hd : d.length = 32) (h1 : 1 ≤ n) (hb : n ≤ 63) (hi : i < n) (hnd : ndS n i n = ss.length) (hsl : ss.length ≤ 100) (hbb : b = true ↔ applyS i n ss d = r) :
    Does Tryz.prog 44 [dig r, dig d, pv i n (sl 0 ss.length)] ⟨1, [(0, .ro (flatD ss))]⟩ (.bool b) ⟨1, [(0, .ro (flatD ss))]⟩ := by
  refine val_of_awp Tryz.func44 (c := codeOf Tryz.f44 []) rfl rfl (awp_of_awn (n := 1) ?_ (Nat.le_refl _))
  have hrr := r44 (flatD ss) (fn d) (fn r) (fn (applyS i n ss d)) n i ss.length ss b
  have he := eqd_ok (x := fn (applyS i n ss d)) (y := fn r) (b := b)
  rw [show dgf (fn d) = d from dgf_of hd, show dgf (fn r) = r from dgf_of hr, show dgf (fn (applyS i n ss d)) = applyS i n ss d from dgf_of (applyS_len _ _ _ _)] at hrr
  rw [show dgf (fn r) = r from dgf_of hr, show dgf (fn (applyS i n ss d)) = applyS i n ss d from dgf_of (applyS_len _ _ _ _)] at he
  refine pieceF hm pCall_sound (orO_sound (callO_sound (ap84 _ _ _ _ _)) eqdO_sound) hrr ⟨he hbb, ⟨hd, rfl, sliC_self hs, rfl, rfl, h1, hb, hi, hnd, hsl, rfl⟩, trivial⟩ ?_
  intro e T H he hr hn hg
  cases tag1 he
  exact ⟨.inr rfl, rfl, _, hr, rfl, keep1 (by rw [hn]; show 1 ≤ 5; omega) (hg (0, _) (.head _))⟩
theorem does44z {r d : List Int} (hr : r.length = 32) (hd : d.length = 32) (H : Heap) : Does Tryz.prog 44 [dig r, dig d, pv 0 0 nilS] H (.bool false) H := by
  refine frame_val (H' := ⟨0, []⟩) (val_of_awp Tryz.func44 (c := codeOf Tryz.f44 []) rfl rfl (awp_of_awn (n := 0) ?_ (Nat.le_refl _))) rfl (imp_zero (r := [dig r, dig d]) dig2_c2)
  have hrr := r44z (fn d) (fn r)
  rw [show dgf (fn d) = d from dgf_of hd, show dgf (fn r) = r from dgf_of hr] at hrr
  refine pieceF hm pCall_sound (callO_sound (ap84 _ _ _ _ _)) hrr ⟨⟨hd, rfl⟩, trivial⟩ ?_
  intro e T H he hr hn hg
  cases tag1 he
  exact ⟨.inr rfl, rfl, _, hr, rfl, keep0 _⟩
noncomputable def oo45 (i n : Nat) (ss : List (List Int)) (f h : Nat → Int) (b : Bool) : OpO := orO (callO Tryz.prog (oneC 85 (apG i n ss (dgf f) (dgf h)))) (eqdO 20 b)
theorem r45 (cs : List Value) (f g h : Nat → Int) (n i k : Nat) (ss : List (List Int)) (b : Bool) : (ex3 Tryz.prog pCall (oo45 i n ss f h b) 60 (codeOf Tryz.f45 []) ⟨⟨[dig (dgf g), dig (dgf f), pv i n (sl 0 k)] ++ List.replicate 19 undef, ⟨1, [(0, .ro cs)]⟩, []⟩, True⟩).map (fin3 Tryz.prog Tryz.f45 [0])
  = some (⟨1, some (.bool b), 5, [.ro cs], []⟩, EqdC (bytes (dgf h)).toArray (bytes (dgf g)).toArray b ∧ ApC i n ss (dgf f) (dgf h) (dig (dgf f)) (i : Int) (n : Int) k 0 cs ∧ True) := by kernel_rfl
theorem r45z (f g : Nat → Int) : (ex3 Tryz.prog pCall (callO Tryz.prog (oneC 85 (apG 0 0 [] (dgf f) []))) 60 (codeOf Tryz.f45 []) ⟨⟨[dig (dgf g), dig (dgf f), pv 0 0 nilS] ++ List.replicate 19 undef, ⟨0, []⟩, []⟩, True⟩).map (fin3 Tryz.prog Tryz.f45 [])
  = some (⟨1, some (.bool false), 4, [], []⟩, ((dgf f).length = 32 ∧ dig (dgf f) = dig (dgf f)) ∧ True) := by kernel_rfl
theorem does45 {ss : List (List Int)} {r d : List Int} {i n : Nat} {b : Bool} (hs : ∀ d ∈ ss, d.length = 32) (hr : r.length = 32) (hd : d.length = 32) (h1 : 1 ≤ n) (hb : n ≤ 63) (hi : i < n) (hnd : ndS n i n = ss.length) (hsl : ss.length ≤ 100) (hbb : b = true ↔ applyS i n ss d = r) :
    Does Tryz.prog 45 [dig r, dig d, pv i n (sl 0 ss.length)] ⟨1, [(0, .ro (flatD ss))]⟩ (.bool b) ⟨1, [(0, .ro (flatD ss))]⟩ := by
  refine val_of_awp Tryz.func45 (c := codeOf Tryz.f45 []) rfl rfl (awp_of_awn (n := 1) ?_ (Nat.le_refl _))
  have hrr := r45 (flatD ss) (fn d) (fn r) (fn (applyS i n ss d)) n i ss.length ss b
  have he := eqd_ok (x := fn (applyS i n ss d)) (y := fn r) (b := b)
  rw [show dgf (fn d) = d from dgf_of hd, show dgf (fn r) = r from dgf_of hr, show dgf (fn (applyS i n ss d)) = applyS i n ss d from dgf_of (applyS_len _ _ _ _)] at hrr
  rw [show dgf (fn r) = r from dgf_of hr, show dgf (fn (applyS i n ss d)) = applyS i n ss d from dgf_of (applyS_len _ _ _ _)] at he
  refine pieceF hm pCall_sound (orO_sound (callO_sound (ap85 _ _ _ _ _)) eqdO_sound) hrr ⟨he hbb, ⟨hd, rfl, sliC_self hs, rfl, rfl, h1, hb, hi, hnd, hsl, rfl⟩, trivial⟩ ?_
  intro e T H he hr hn hg
  cases tag1 he
  exact ⟨.inr rfl, rfl, _, hr, rfl, keep1 (by rw [hn]; show 1 ≤ 5; omega) (hg (0, _) (.head _))⟩
theorem does45z {r d : List Int} (hr : r.length = 32) (hd : d.length = 32) (H : Heap) : Does Tryz.prog 45 [dig r, dig d, pv 0 0 nilS] H (.bool false) H := by
  refine frame_val (H' := ⟨0, []⟩) (val_of_awp Tryz.func45 (c := codeOf Tryz.f45 []) rfl rfl (awp_of_awn (n := 0) ?_ (Nat.le_refl _))) rfl (imp_zero (r := [dig r, dig d]) dig2_c2)
  have hrr := r45z (fn d) (fn r)
  rw [show dgf (fn d) = d from dgf_of hd, show dgf (fn r) = r from dgf_of hr] at hrr
  refine pieceF hm pCall_sound (callO_sound (ap85 _ _ _ _ _)) hrr ⟨⟨hd, rfl⟩, trivial⟩ ?_
  intro e T H he hr hn hg
  cases tag1 he
  exact ⟨.inr rfl, rfl, _, hr, rfl, keep0 _⟩

/-- Proofs verified, by contract. -/
structure VfC (i n : Nat) (ss : List (List Int)) (d r : List Int) (bb : Bool) (v v' : Value) (a b : Int) (k off : Nat) (cs : List Value) : Prop where
  hr : r.length = 32
  hv : v = dig r
  ap : ApC i n ss d (applyS i n ss d) v' a b k off cs
  hb : bb = true ↔ applyS i n ss d = r
def vfG (i n : Nat) (ss : List (List Int)) (d r : List Int) (bb : Bool) : List Value → Heap → Option CallR := fun args H => match args with
  | [v, v', .agg ⟨[.int .i64 a, .int .i64 b, .slice (some ⟨id, off, none⟩) k _]⟩] => (match H.row id with
    | some cs => some (.same (.bool bb) (VfC i n ss d r bb v v' a b k off cs))
    | none => none)
  | [v, v', .agg ⟨[.int .i64 0, .int .i64 0, .slice none 0 0]⟩] => some (.same (.bool false) (r.length = 32 ∧ d.length = 32 ∧ v = dig r ∧ v' = dig d))
  | _ => none
theorem vf44 (i n : Nat) (ss : List (List Int)) (d r : List Int) (bb : Bool) : SoundC Tryz.prog (oneC 44 (vfG i n ss d r bb)) := oneC_sound fun args H q h => by
  unfold vfG at h
  split at h
  · rename_i v v' a b id off k' c
    split at h
    case h_2 => cases h
    rename_i cs hr
    cases h
    intro hc
    obtain ⟨h0, rfl, ⟨h1, rfl, h3, rfl, rfl, h6, h7, h8, h9, h10, _⟩, hbb⟩ := hc
    exact frame_val (does44 h3.1 h0 h1 h6 h7 h8 h9 h10 hbb) rfl (imp_proof (r := [dig r, dig d]) dig2_c2 hr h3)
  · cases h
    rintro ⟨h1, h2, rfl, rfl⟩
    exact does44z h1 h2 H
  · cases h
theorem vf45 (i n : Nat) (ss : List (List Int)) (d r : List Int) (bb : Bool) : SoundC Tryz.prog (oneC 45 (vfG i n ss d r bb)) := oneC_sound fun args H q h => by
  unfold vfG at h
  split at h
  · rename_i v v' a b id off k' c
    split at h
    case h_2 => cases h
    rename_i cs hr
    cases h
    intro hc
    obtain ⟨h0, rfl, ⟨h1, rfl, h3, rfl, rfl, h6, h7, h8, h9, h10, _⟩, hbb⟩ := hc
    exact frame_val (does45 h3.1 h0 h1 h6 h7 h8 h9 h10 hbb) rfl (imp_proof (r := [dig r, dig d]) dig2_c2 hr h3)
  · cases h
    rintro ⟨h1, h2, rfl, rfl⟩
    exact does45z h1 h2 H
  · cases h

-- proofs compared
abbrev o17 (cs ds : List Value) (i n k : Nat) : List (Nat × AObj) := [(0, .ro cs), (1, .ro ds), (2, oPf i n (sl 0 k)), (3, oPf i n (sl 1 k))]
abbrev v17 (cs ds : List Value) (i n k : Nat) : List AObj := [.ro cs, .ro ds, oPf i n (sl 0 k), oPf i n (sl 1 k)]
theorem r17z : (ex3 Tryz.prog pCall noOO 60 (codeOf Tryz.f17 []) ⟨⟨[pv 0 0 nilS, pv 0 0 nilS] ++ List.replicate 43 undef, ⟨0, []⟩, []⟩, True⟩).map (fin3 Tryz.prog Tryz.f17 [])
  = some (⟨1, some (.bool true), 2, [], []⟩, True) := by kernel_rfl
theorem r17a (n i k : Nat) (cs ds : List Value) : (ex3 Tryz.prog pCall noOO 60 (pre 0 (codeOf Tryz.f17 [])) ⟨⟨[pv i n (sl 0 k), pv i n (sl 1 k)] ++ List.replicate 43 undef, ⟨2, [(0, .ro cs), (1, .ro ds)]⟩, []⟩, True⟩).map (obs3 [2,3,4] [0,1,2,3])
  = some (⟨0, [pt 2, pt 3, .bool false], 45, 4, v17 cs ds i n k, []⟩, True) := by kernel_rfl
noncomputable def oo17 : OpO := orO (forceO Tryz.prog 10 (.bool false)) (orO (forceO Tryz.prog 16 (.bool false)) (forceO Tryz.prog 25 (.bool false)))
theorem oo17_sound : SoundO Tryz.prog oo17 := orO_sound forceO_sound (orO_sound forceO_sound forceO_sound)
theorem r17b (n i k : Nat) (cs ds : List Value) : (ex3 Tryz.prog pCall oo17 60 (pre 0 (codeOf Tryz.f17 [1,0])) ⟨⟨mkT 45 [(2, pt 2), (3, pt 3), (4, .bool false)] jX, mkH 4 (o17 cs ds i n k) [], []⟩, True⟩).map (obsQ [2,3,4,26])
  = some (⟨0, [pt 2, pt 3, .bool false, .bool false], 45, mkH 4 (o17 cs ds i n k) [], []⟩, some (Value.bool ((k : Int) != (k : Int))) = some (Value.bool false) ∧ some (Value.bool ((n : Int) != (n : Int))) = some (Value.bool false) ∧ some (Value.bool ((i : Int) != (i : Int))) = some (Value.bool false) ∧ True) := by kernel_rfl
theorem r17c (H : Heap) (b : Value) : (ex3 Tryz.prog pCall noOO 60 (pre 0 (codeOf Tryz.f17 [1,1,0])) ⟨⟨mkT 45 [(2, pt 2), (3, pt 3), (4, .bool false), (26, b)] jX, H, []⟩, True⟩).map (obsQ [2,3,4,5])
  = some (⟨0, [pt 2, pt 3, .bool false, i64 ((0 : Nat) : Int)], 45, H, []⟩, True) := by kernel_rfl
theorem r17d (n i k c : Nat) (cs ds : List Value) : (ex3 Tryz.prog pCall noOO 60 (pre 0 (codeOf Tryz.f17 [1,1,0,1,0,0,0])) ⟨⟨mkT 45 [(2, pt 2), (3, pt 3), (4, .bool false), (5, i64 (c : Int))] jX, mkH 4 (o17 cs ds i n k) [], []⟩, True⟩).map (obsQ [2,3,4,5,31])
  = some (⟨0, [pt 2, pt 3, .bool false, i64 (c : Int), .bool (decide ((c : Int) < (k : Int)))], 45, mkH 4 (o17 cs ds i n k) [], []⟩, True) := by kernel_rfl
noncomputable def oo17a (f : Nat → Int) : OpO := orO (idxO Tryz.prog 37) (orO (ldO Tryz.prog 38 (dig (dgf f))) (orO (idxO Tryz.prog 42) (orO (ldO Tryz.prog 43 (dig (dgf f))) (neqO 44))))
theorem oo17a_sound (f : Nat → Int) : SoundO Tryz.prog (oo17a f) := orO_sound idxO_sound (orO_sound ldO_sound (orO_sound idxO_sound (orO_sound ldO_sound neqO_sound)))
theorem r17e (f : Nat → Int) (n i k c : Nat) (b : Value) (cs ds : List Value) : (ex3 Tryz.prog pCall (oo17a f) 60 (codeOf Tryz.f17 [1,1,0,1,0,0,1]) ⟨⟨mkT 45 [(2, pt 2), (3, pt 3), (4, .bool false), (5, i64 (c : Int)), (31, b)] jX, mkH 4 (o17 cs ds i n k) [], []⟩, True⟩).map (obs3 [2,3,4,5] [0,1,2,3])
  = some (⟨0, [pt 2, pt 3, .bool false, cw c], 45, 4, v17 cs ds i n k, []⟩,
    NeqC (dA f) (dA f) ∧ LdC Tryz.prog 26 (some ds) (0 + c * 32) (dig (dgf f)) ∧ ((0 : Int) ≤ (c : Int) ∧ (c : Int) < (k : Int)) ∧ LdC Tryz.prog 26 (some cs) (0 + c * 32) (dig (dgf f)) ∧ ((0 : Int) ≤ (c : Int) ∧ (c : Int) < (k : Int)) ∧ True) := by kernel_rfl
theorem r17f (n i k c : Nat) (b : Value) (cs ds : List Value) : (ex3 Tryz.prog pCall noOO 60 (codeOf Tryz.f17 [1,1,1]) ⟨⟨mkT 45 [(2, pt 2), (3, pt 3), (4, .bool false), (5, i64 (c : Int)), (31, b)] jX, mkH 4 (o17 cs ds i n k) [], []⟩, True⟩).map (fin3 Tryz.prog Tryz.f17 [0,1])
  = some (⟨1, some (.bool true), 4, [.ro cs, .ro ds], []⟩, True) := by kernel_rfl
theorem does17 {ss : List (List Int)} {i n : Nat} (h : ∀ d ∈ ss, d.length = 32) (hb : ss.length ≤ 100000) :
    Does Tryz.prog 17 [pv i n (sl 0 ss.length), pv i n (sl 1 ss.length)] ⟨2, [(0, .ro (flatD ss)), (1, .ro (flatD ss))]⟩ (.bool true) ⟨2, [(0, .ro (flatD ss)), (1, .ro (flatD ss))]⟩ := by
  refine val_of_awp Tryz.func17 (c := codeOf Tryz.f17 []) rfl rfl (awp_of_awn (n := 2) ?_ (Nat.le_refl _))
  generalize hk : ss.length = k at *
  have hob : ∀ s, sg 2 s 2 = some 2 → sg 2 s 3 = some 3 → F2 (fun (p q : Nat × AObj) => sg 2 s q.1 = some p.1 ∧ RO (sg 2 s) p.2 q.2) (([0,1,2,3] : List Nat).zip (v17 (flatD ss) (flatD ss) i n k)) (o17 (flatD ss) (flatD ss) i n k) := fun s h2 h3 =>
    .cons ⟨rfl, .ro (RV.all flatD_c2)⟩ (.cons ⟨rfl, .ro (RV.all flatD_c2)⟩ (.cons ⟨h2, .pf (.slice rfl)⟩ (.cons ⟨h3, .pf (.slice rfl)⟩ .nil)))
  refine pieceS hm pCall_sound noOO_sound 0 (r17a n i k _ _) rfl trivial rfl 4 [(2, 2), (3, 3)] rfl (hob _ rfl rfl) .nil ?_
  refine awn_seq (x := codeOf Tryz.f17 [1,0]) (y := codeOf Tryz.f17 [1,1]) ?_
  refine pieceT hm pCall_sound oo17_sound 0 (r17b n i k _ _) rfl ⟨by simp, by simp, by simp, trivial⟩ rfl ?_
  refine awn_cond (c := .tmp 26) (b := false) rfl rfl (awn_skip ?_)
  refine awn_seq (x := codeOf Tryz.f17 [1,1,0]) (y := codeOf Tryz.f17 [1,1,1]) ?_
  refine pieceT hm pCall_sound noOO_sound 0 (r17c _ _) rfl trivial rfl ?_
  refine awn_block (c := codeOf Tryz.f17 [1,1,0,1,0]) (awn_loop (c := codeOf Tryz.f17 [1,1,0,1,0,0])
    (fun q T H D => ∃ c, c + q = k ∧ T = mkT 45 [(2, pt 2), (3, pt 3), (4, .bool false), (5, i64 (c : Int))] jX ∧ H = mkH 4 (o17 (flatD ss) (flatD ss) i n k) [] ∧ D = [])
    k ⟨_, _, _, .refl _ _ _ _ _, 0, by omega, rfl, rfl, rfl⟩ ?_)
  rintro q T H D ⟨c, hq, rfl, rfl, rfl⟩
  refine awn_seq (x := codeOf Tryz.f17 [1,1,0,1,0,0,0]) (y := codeOf Tryz.f17 [1,1,0,1,0,0,1]) ?_
  refine pieceT hm pCall_sound noOO_sound 0 (r17d n i k c _ _) rfl trivial rfl ?_
  refine awn_cond (c := .tmp 31) (b := decide ((c : Int) < (k : Int))) rfl rfl ?_
  cases q with
  | zero =>
    rw [decide_eq_false (by omega)]
    refine awn_exit ?_
    refine pieceF hm pCall_sound noOO_sound (r17f n i k c _ _ _) trivial ?_
    intro e T H he hr hn hg
    cases tag1 he
    exact ⟨.inr rfl, rfl, _, hr, rfl, keep2 (by rw [hn]; show 2 ≤ 4; omega) (hg (0, _) (.head _)) (hg (1, _) (.tail _ (.head _)))⟩
  | succ q =>
    rw [decide_eq_true (by omega)]
    refine awn_skip ?_
    obtain ⟨hl1, hl2⟩ := getD_32 h (i := c) (by omega)
    generalize ss.getD c [] = d at hl1 hl2
    have hr := r17e (fn d) n i k c (.bool true) (flatD ss) (flatD ss)
    have hw := wrap_i1 (i := c) (by omega)
    have hL := flatD_at h hl2
    have hfd : dgf (fn d) = d := dgf_of hl1
    rw [← hfd] at hL
    rw [cw, hw] at hr
    refine pieceE hm pCall_sound (oo17a_sound _) hr ⟨neq_ok _, hL, ⟨by omega, by omega⟩, hL, ⟨by omega, by omega⟩, trivial⟩ rfl 4 [(2, 2), (3, 3)] rfl (hob _ rfl rfl) .nil ?_
    intro T H D hN
    exact ⟨q, by omega, _, _, _, hN, c + 1, by omega, rfl, rfl, rfl⟩
theorem does17z (H : Heap) : Does Tryz.prog 17 [pv 0 0 nilS, pv 0 0 nilS] H (.bool true) H := by
  refine frame_val (H' := ⟨0, []⟩) (val_of_awp Tryz.func17 (c := codeOf Tryz.f17 []) rfl rfl (awp_of_awn (n := 0) ?_ (Nat.le_refl _))) rfl
    (imp_gen (fun _ => none) (fun _ _ h => by cases h) (.cons (RI.agg (.cons (.closed rfl) (.cons (.closed rfl) (.cons (.closed rfl) .nil)))) (.cons (RI.agg (.cons (.closed rfl) (.cons (.closed rfl) (.cons (.closed rfl) .nil)))) .nil)) (fun p hp => by cases hp))
  refine pieceF hm pCall_sound noOO_sound r17z trivial ?_
  intro e T H he hr hn hg
  cases tag1 he
  exact ⟨.inr rfl, rfl, _, hr, rfl, keep0 _⟩
def spG (ss : List (List Int)) (i n : Nat) : List Value → Heap → Option CallR := fun args H => match args with
  | [.agg ⟨[.int .i64 a, .int .i64 b, .slice (some ⟨id, off, none⟩) k _]⟩, .agg ⟨[.int .i64 a', .int .i64 b', .slice (some ⟨id2, off2, none⟩) k2 _]⟩] => (match H.row id, H.row id2 with
    | some cs, some cs2 => some (.same (.bool true) ((a = (i : Int) ∧ b = (n : Int) ∧ a' = (i : Int) ∧ b' = (n : Int)) ∧ SliC ss k off cs ∧ SliC ss k2 off2 cs2 ∧ ss.length ≤ 100000))
    | _, _ => none)
  | [.agg ⟨[.int .i64 0, .int .i64 0, .slice none 0 0]⟩, .agg ⟨[.int .i64 0, .int .i64 0, .slice none 0 0]⟩] => some (.same (.bool true) True)
  | _ => none
theorem sp17 (ss : List (List Int)) (i n : Nat) : SoundC Tryz.prog (oneC 17 (spG ss i n)) := oneC_sound fun args H r h => by
  unfold spG at h
  split at h
  · rename_i a b id off k c a' b' id2 off2 k2 c2
    split at h
    case h_2 => cases h
    rename_i cs cs2 hr hr2
    cases h
    rintro ⟨⟨rfl, rfl, rfl, rfl⟩, ⟨g1, rfl, g3, g4⟩, ⟨_, rfl, k3, k4⟩, hb⟩
    have hfl := flatD_len g1
    refine frame_val (does17 g1 hb) rfl (imp_gen (fun j => if j = 0 then some (id, off, c) else if j = 1 then some (id2, off2, c2) else none) ?_ (.cons (RI.agg (.cons (.closed rfl) (.cons (.closed rfl) (.cons (RI.slice rfl) .nil)))) (.cons (RI.agg (.cons (.closed rfl) (.cons (.closed rfl) (.cons (RI.slice rfl) .nil)))) .nil)) ?_)
    · intro j x hj
      by_cases h0 : j = 0
      · omega
      · by_cases h1 : j = 1
        · omega
        · simp [h0, h1] at hj
    · intro p hp
      simp only [List.mem_cons, List.not_mem_nil, or_false] at hp
      rcases hp with rfl | rfl
      · exact .inr ⟨id, off, c, cs, flatD ss, flatD ss, rfl, hr, rfl, by rw [hfl]; exact g4, RI.all flatD_c2, by rw [hfl]; exact g3⟩
      · exact .inr ⟨id2, off2, c2, cs2, flatD ss, flatD ss, rfl, hr2, rfl, by rw [hfl]; exact k4, RI.all flatD_c2, by rw [hfl]; exact k3⟩
  · cases h
    intro _
    exact does17z H
  · cases h
end Go.Abs

