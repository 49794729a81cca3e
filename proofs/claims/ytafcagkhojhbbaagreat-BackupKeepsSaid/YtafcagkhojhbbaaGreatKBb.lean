/- BackupKeeps of law 31: Keep and Expire of the program return the lists of the specification, for all days, numbers of days and today; no condition. -/
import Derived.Test.YtafcagkhojhbbaaGreatKBa
set_option linter.unusedSimpArgs false
set_option linter.unusedVariables false
namespace Go.Abs
open Go.RowKit (Below)

theorem below_putObj {B : Nat} {w : World} {r : Nat} (o : Obj) (h : B ≤ r) : Below B w (w.putObj r o) :=
  ⟨rfl, rfl, rfl, by simp, fun k hk => World.putObj_heap_other (by omega)⟩

/-- The loop's parameters get the arguments of yield. -/
def setPs : List Tmp → List Value → List Value → List Value
  | p :: ps, v :: vs, T => setPs ps vs (T.set p v)
  | _, _, T => T

theorem TRel.of_L {E : Env} {T : List Value} {a : Array Value} (h : LRel E T a) : TRel E T a :=
  ⟨by simpa using h.size.symm, fun t => by have := h.at_ t; simpa [Array.getD_eq_getD_getElem?, List.getD_eq_getElem?_getD] using this⟩
theorem setPs_rel {E : Env} : ∀ (ps : List Tmp) (vs us : List Value) (T : List Value) (tm : Array Value), F2 (VRel E) vs us → TRel E T tm →
    TRel E (setPs ps vs T) ((ps.zip us).foldl (fun tmps (p : Tmp × Value) => tmps.setIfInBounds p.1 p.2) tm)
  | [], vs, us, T, tm, _, hT => by simpa [setPs] using hT
  | p :: ps, [], _, T, tm, .nil, hT => by simpa [setPs] using hT
  | p :: ps, v :: vs, u :: us, T, tm, .cons hv ht, hT => by
    simp only [setPs, List.zip_cons_cons, List.foldl_cons]
    exact setPs_rel ps vs us _ _ ht (TRel.put (a := ⟨tm, []⟩) hT (some p) hv)

/-- One round: what the loop's body does with the arguments of yield. -/
def Round1 (P : Program) (id : Nat) (vs : List Value) (H H' : Heap) : Prop :=
  ∃ T g ps asn bod T1 H1 H2, H.get id = .lp T (.rangeFunc g ps asn bod) false ∧ vs.length = ps.size ∧ noDef asn = true ∧ noDef bod = true ∧
    Awp P asn (fun e T' H' D' => e = .normal ∧ T' = T1 ∧ H' = H1 ∧ D' = []) (setPs ps.toList vs T) H [] ∧ H1.get id = .lp T (.rangeFunc g ps asn bod) false ∧
    Awp P bod (fun e _ H' D' => e = .normal ∧ H' = H2 ∧ D' = []) T1 (H1.put id (.lp T (.rangeFunc g ps asn bod) true)) [] ∧ H2.get id = .lp T (.rangeFunc g ps asn bod) true ∧
    H' = H2.put id (.lp T (.rangeFunc g ps asn bod) false)

theorem SDoes.yield {P : Program} {o : Oper} {c : Call} (ho : o.op = .call c) {fo : Operand} (hcal : c.callee = .value fo) {ρ : Operand → Value} {H H' : Heap} (D : Defs) {id : Nat} (hv : ρ fo = .func (.yield (id + 1)) #[] #[])
    (h : Round1 P id (c.args.toList.map ρ) H H') : SDoes P o ρ H D (.bool true) H' D := by
  intro B E a w rd n hk hH hD hr K Q hK
  obtain ⟨T, g, ps, asn, bod, T1, H1, H2, hg, hlen, hna, hnb, ha, hg1, hb, hg2, rfl⟩ := h
  have hargs : ARel E (c.args.map ρ) (c.args.map a.eval) := ARel.map fun x hx => hr x (by simp [ho, Op.operands, Call.operands, hx])
  have hf := hr fo (by simp [ho, Op.operands, Call.operands, hcal])
  rw [hv] at hf
  generalize hcv : a.eval fo = u at hf
  cases hf with
  | func _ _ _ _ _ hf => exact absurd rfl (hf _)
  | yld _ l hl =>
    have hobj := hH.obj id
    rw [hg] at hobj
    obtain ⟨l', r, g', e1, e2, e3, e4, e5, e6, e7, e8⟩ := hobj
    rw [hl] at e1; cases e1
    injection e7 with e71 e72 e73 e74
    have hsz : (c.args.map a.eval).size = r.params.size := by rw [← e72, ← hlen]; simp
    have hrun : (execOp a.eval o).run P w = .ok (.round l.blk r.fn ((r.params.zip (c.args.map a.eval)).foldl (fun tmps (t, a) => tmps.setIfInBounds t a) r.tmps) r.assign r.body) w := by
      have := run_yield (P := P) (args := c.args.map a.eval) e4 hsz
      simp [execOp, ho, resolve, hcal, hcv, Deferred.ofValue, invoke, this]
    refine wpIn_FR hk hrun ⟨fun h => (by cases h), roundIn_of_wpIn trivial ?_⟩
    rw [← e72, ← e73, ← e74]
    have hF2 : F2 (VRel E) (c.args.toList.map ρ) (c.args.map a.eval).toList := by
      have e : LRel E (c.args.toList.map ρ) (c.args.map a.eval) := by rw [LRel, ← Array.toList_map, Array.toArray_toList]; exact hargs
      exact ARel.F2 e
    have hT : TRel E (setPs ps.toList (c.args.toList.map ρ) T) ((ps.zip (c.args.map a.eval)).foldl (fun tmps (t, a) => tmps.setIfInBounds t a) r.tmps) := by
      have := setPs_rel ps.toList _ _ T r.tmps hF2 (TRel.of_L e8)
      rw [← Array.foldl_toList, Array.toList_zip]
      exact this
    refine wpIn_mono (ha B E _ w (some l.blk) (n - 1) (.inr hna) ⟨hH, hT, .nil⟩) ?_
    rintro e a1 w1 ⟨E1, T', H', D', ⟨rfl, rfl, rfl, rfl⟩, k2, k3, k4⟩
    have hobj1 := k3.heap.obj id
    rw [hg1] at hobj1
    obtain ⟨l1, r1, g1, f1, f2, f3, f4, f5, f6, f7, f8⟩ := hobj1
    rw [k2 _ _ hl] at f1; cases f1
    refine ⟨_, run_beginRound f4 f5, ?_⟩
    have hlt1 := (Array.getElem?_eq_some_iff.1 f4).1
    have hHb : HRel P B E1 (H'.put id (.lp T (.rangeFunc g ps asn bod) true)) (w1.putObj l.blk (.loop { r1 with state := .busy })) :=
      k3.heap.update (k2 _ _ hl) (by rw [hg1]; rfl) (by simp) (fun k hk => World.putObj_heap_other hk) ⟨l, _, g1, k2 _ _ hl, f2, f3, World.putObj_heap_same hlt1, rfl, f6, f7, f8⟩
    refine wpIn_mono (hb B E1 a1 _ (some l.blk) (n - 1) (.inr hnb) ⟨hHb, k3.tmps, k3.defs⟩) ?_
    rintro e a2 w2 ⟨E2, T2, H', D2, ⟨rfl, rfl, rfl⟩, q2, q3, q4⟩
    have hobj2 := q3.heap.obj id
    rw [hg2] at hobj2
    obtain ⟨l2, r2, g2, p1, p2, p3, p4, p5, p6, p7, p8⟩ := hobj2
    rw [q2 _ _ (k2 _ _ hl)] at p1; cases p1
    refine ⟨_, _, run_endRound none p4, ?_⟩
    have hlt2 := (Array.getElem?_eq_some_iff.1 p4).1
    have hHe : HRel P B E2 (H'.put id (.lp T (.rangeFunc g ps asn bod) false)) (w2.putObj l.blk (.loop { r2 with state := .ready, pending := none })) :=
      q3.heap.update (q2 _ _ (k2 _ _ hl)) (by rw [hg2]; rfl) (by simp) (fun k hk => World.putObj_heap_other hk) ⟨l, _, g2, q2 _ _ (k2 _ _ hl), p2, p3, World.putObj_heap_same hlt2, rfl, rfl, p7, p8⟩
    have hle := k2.trans q2
    exact hK E2 (.bool true) _ a.defers hle hHe (.bool true) (k4.trans ((below_putObj _ f3).trans (q4.trans (below_putObj _ p3)))) (hD.mono hle)

end Go.Abs

namespace Go.Abs
open Go.RowKit (Below)

end Go.Abs

namespace Go.Abs
open Go.RowKit (Below)

end Go.Abs

namespace Go.Abs
open Go.RowKit (Below)

end Go.Abs

namespace Go.Abs
open Go.RowKit (Below)
set_option maxRecDepth 1000000

/-- Aggregates and tuples under other names. -/
theorem RV.aggs {σ : Nat → Option Nat} {l m : List Value} (h : F2 (RV σ) l m) : RV σ (.agg l.toArray) (.agg m.toArray) := fun E u hv => by
  generalize ha : l.toArray = a at hv
  cases hv with
  | agg _ a' hs hr =>
    have h1 : LRel E l a' := by subst ha; exact ⟨hs, hr⟩
    exact .agg' (RV.list h h1)
theorem VRel.tuple_inv {E : Env} {a : Array Value} {u : Value} (h : VRel E (.tuple a) u) : ∃ a', u = .tuple a' ∧ ARel E a a' := by
  cases h with
  | tuple0 => exact ⟨#[], rfl, .nil E⟩
  | tuple _ a' hs hr => exact ⟨a', rfl, .of_lt hs hr⟩
theorem RV.tuples {σ : Nat → Option Nat} {l m : List Value} (h : F2 (RV σ) l m) : RV σ (.tuple l.toArray) (.tuple m.toArray) := fun E u hv => by
  obtain ⟨a', rfl, hr⟩ := hv.tuple_inv
  exact .tuple_iff (RV.list h hr)

theorem Heap.sub_trans' {A B C : Heap} (h : A.sub B) (h' : B.sub C) : A.sub C := fun x hx => by
  have := h x hx
  rw [h' x (by rw [this]; exact hx), this]
/-- A row of closed values. -/
def Shut (o : AObj) : Prop := ∃ cs e, (o = .grow cs e ∨ o = .cells cs e) ∧ ∀ v ∈ cs, c2 v = true
theorem LRel.closed {E E2 : Env} {cs : List Value} {a : Array Value} (h : LRel E cs a) (hc : ∀ v ∈ cs, c2 v = true) : LRel E2 cs a := by
  refine ⟨h.1, fun i => ?_⟩
  have := h.2 i
  by_cases hi : i < cs.length
  · have e : cs.toArray.getD i undef = cs[i] := by simp [Array.getD, hi]
    rw [e] at this ⊢
    have hm := hc _ (List.getElem_mem hi)
    rw [eq_of_c2 this hm]
    exact .of_c2 hm
  · have e : cs.toArray.getD i undef = undef := by simp [Array.getD, hi]
    rw [e] at this ⊢
    rw [eq_of_c2 this (by simp [c2, undef])]
    exact .undef _
theorem Shut.or {P : Program} {B B2 : Nat} {E E2 : Env} {w : World} {i j : Nat} {o : AObj} {l : Loc} (h : Shut o) (ho : OR P B E w i o) (hi : E i = some l) (hj : E2 j = some l) (hB : B2 ≤ B) : OR P B2 E2 w j o := by
  obtain ⟨cs, e, hcs, hc⟩ := h
  rcases hcs with rfl | rfl
  · obtain ⟨l', c', k1, k2, k3, k4, k5, k6, k7, k8⟩ := ho
    rw [hi] at k1; cases k1
    refine ⟨l, c', hj, k2, Nat.le_trans hB k3, k4, k5, k6, k7, fun q hq => ?_⟩
    have hm : cs.getD q undef ∈ cs := by rw [List.getD_eq_getElem?_getD, List.getElem?_eq_getElem hq]; exact List.getElem_mem hq
    rw [eq_of_c2 (k8 q hq) (hc _ hm)]
    exact .of_c2 (hc _ hm)
  · obtain ⟨l', c', k1, k2, k3, k4, k5⟩ := ho
    rw [hi] at k1; cases k1
    exact ⟨l, c', hj, k2, Nat.le_trans hB k3, k4, k5.closed hc⟩
theorem Shut.loc {P : Program} {B : Nat} {E : Env} {w : World} {i : Nat} {o : AObj} (h : Shut o) (ho : OR P B E w i o) : ∃ l, E i = some l ∧ B ≤ l.blk := by
  obtain ⟨cs, e, hcs, hc⟩ := h
  rcases hcs with rfl | rfl
  · obtain ⟨l', c', k1, k2, k3, _⟩ := ho; exact ⟨l', k1, k3⟩
  · obtain ⟨l', c', k1, k2, k3, _⟩ := ho; exact ⟨l', k1, k3⟩
theorem Shut.mut {o : AObj} (h : Shut o) : o.mut = true := by
  obtain ⟨cs, e, hcs, hc⟩ := h
  rcases hcs with rfl | rfl <;> rfl

def pushAll (H : Heap) (os : List AObj) : Heap := os.foldl Heap.push H
theorem pushAll_next (H : Heap) : ∀ os : List AObj, (pushAll H os).next = H.next + os.length
  | [] => rfl
  | o :: os => by
    show (pushAll (H.push o) os).next = _
    rw [pushAll_next (H.push o) os]
    show H.next + 1 + os.length = _
    simp; omega
theorem pushAll_get : ∀ (os : List AObj) (H : Heap) (x : Nat), (pushAll H os).get x = if H.next ≤ x ∧ x < H.next + os.length then os.getD (x - H.next) .dead else H.get x
  | [], H, x => by rw [if_neg (by simp)]; rfl
  | o :: os, H, x => by
    show (pushAll (H.push o) os).get x = _
    rw [pushAll_get os (H.push o) x]
    have hn : (H.push o).next = H.next + 1 := rfl
    rw [hn, Heap.get_push]
    by_cases h1 : H.next = x
    · subst h1
      rw [if_neg (by omega), if_pos rfl, if_pos ⟨Nat.le_refl _, by simp⟩]
      simp
    · rw [if_neg h1]
      by_cases h2 : H.next + 1 ≤ x ∧ x < H.next + 1 + os.length
      · rw [if_pos h2, if_pos ⟨by omega, by simp; omega⟩, show x - H.next = (x - (H.next + 1)) + 1 by omega, List.getD_cons_succ]
      · rw [if_neg h2, if_neg (by simp; omega)]

/-- The heap to look at. -/
def roO : AObj → AObj
  | .cells cs _ => .ro cs
  | .grow cs _ => .ro cs
  | .ro cs => .ro cs
  | _ => .dead
def roH (H : Heap) : Heap := ⟨H.next, H.l.map fun p => (p.1, roO p.2)⟩
theorem look_ro (i : Nat) : ∀ l : List (Nat × AObj), look (l.map fun p => (p.1, roO p.2)) i = roO (look l i)
  | [] => rfl
  | (j, o) :: l => by
    rw [List.map_cons, look_cons, look_cons]
    split
    · rfl
    · exact look_ro i l
theorem roH_get (H : Heap) (i : Nat) : (roH H).get i = roO (H.get i) := look_ro i H.l
theorem roH_row (H : Heap) (i : Nat) : (roH H).row i = H.row i := by
  unfold Heap.row
  rw [roH_get]
  cases H.get i <;> rfl
theorem roH_rel {P : Program} {B : Nat} {E : Env} {H : Heap} {w : World} (h : HRel P B E H w) : HRel P w.heap.size E (roH H) w := by
  refine ⟨Nat.le_refl _, h.dom, fun i => ?_, fun i j li lj hi hj mi => ?_⟩
  · rw [roH_get]
    have ho := h.obj i
    have key : ∀ cs, H.row i = some cs → (∃ l, E i = some l) → OR P w.heap.size E w i (.ro cs) := by
      rintro cs hr ⟨l, hl⟩
      refine ⟨l, hl, row_lt h hr hl, fun q hq => ?_⟩
      have hv : cs[q]? = some (cs.getD q undef) := by rw [List.getD_eq_getElem?_getD, List.getElem?_eq_getElem hq]; rfl
      exact h.cell hr hl hv
    cases hg : H.get i with
    | cells cs e =>
      rw [hg] at ho
      obtain ⟨l, _, h1, _⟩ := ho
      exact key cs (by simp [Heap.row, hg]) ⟨l, h1⟩
    | grow cs e =>
      rw [hg] at ho
      obtain ⟨l, _, h1, _⟩ := ho
      exact key cs (by simp [Heap.row, hg]) ⟨l, h1⟩
    | ro cs =>
      rw [hg] at ho
      obtain ⟨l, h1, _⟩ := ho
      exact key cs (by simp [Heap.row, hg]) ⟨l, h1⟩
    | _ => trivial
  · rw [roH_get] at mi
    cases hg : H.get i <;> rw [hg] at mi <;> cases mi

/-- Blocks made under free names, several at once. -/
theorem HRel.fillN {P : Program} {B : Nat} {E E2 : Env} {H H2 : Heap} {w w' : World} (h : HRel P B E H w) (hsz : w.heap.size ≤ w'.heap.size) (hold : ∀ k, k < w.heap.size → w'.heap[k]? = w.heap[k]?) (hle : E.le E2) (hn : H.next ≤ H2.next)
    (hc : ∀ j, (E2 j = E j ∧ H2.get j = H.get j) ∨ (∃ l, E2 j = some l ∧ E j = none ∧ j < H2.next ∧ w.heap.size ≤ l.blk ∧ OR P B E2 w' j (H2.get j)))
    (hi : ∀ i j li lj, E i = none → E j = none → E2 i = some li → E2 j = some lj → li.blk = lj.blk → i = j) : HRel P B E2 H2 w' := by
  refine ⟨Nat.le_trans h.base hsz, fun i l hl => ?_, fun i => ?_, fun i j li lj hi1 hj1 mi mj hb => ?_⟩
  · rcases hc i with ⟨e1, _⟩ | ⟨l', e1, _, e3, _⟩
    · rw [e1] at hl; exact Nat.lt_of_lt_of_le (h.dom _ _ hl) hn
    · exact e3
  · rcases hc i with ⟨_, e2⟩ | ⟨l', _, _, _, _, e5⟩
    · rw [e2]; exact (h.obj i).keep hle h.base (fun _ _ hlt _ => hold _ hlt)
    · exact e5
  · have key : ∀ i li, E2 i = some li → (H2.get i).mut = true → (E i = some li ∧ (H.get i).mut = true ∧ li.blk < w.heap.size) ∨ (E i = none ∧ w.heap.size ≤ li.blk) := by
      intro i li h1 h2
      rcases hc i with ⟨e1, e2⟩ | ⟨l', e1, e2, _, e4, _⟩
      · rw [e2] at h2
        rw [e1] at h1
        obtain ⟨l2, q1, _, q3⟩ := (h.obj i).lt h2
        rw [h1] at q1; cases q1
        exact .inl ⟨h1, h2, q3⟩
      · rw [h1] at e1; cases e1; exact .inr ⟨e2, e4⟩
    rcases key i li hi1 mi with ⟨a1, a2, a3⟩ | ⟨a1, a2⟩ <;> rcases key j lj hj1 mj with ⟨b1, b2, b3⟩ | ⟨b1, b2⟩
    · exact h.inj i j li lj a1 b1 a2 b2 hb
    · omega
    · omega
    · exact hi i j li lj a1 b1 hi1 hj1 hb

/-- What a fresh operation leaves: new names from id on, and nothing else. -/
structure NewN (P : Program) (B : Nat) (E : Env) (w : World) (id : Nat) (obs : List AObj) (E2 : Env) (w' : World) : Prop where
  out : ∀ j, ¬ (id ≤ j ∧ j < id + obs.length) → E2 j = E j
  new : ∀ k ob, obs[k]? = some ob → ∃ l, E2 (id + k) = some l ∧ w.heap.size ≤ l.blk ∧ OR P B E2 w' (id + k) ob
  inj : ∀ i j li lj, (id ≤ i ∧ i < id + obs.length) → (id ≤ j ∧ j < id + obs.length) → E2 i = some li → E2 j = some lj → li.blk = lj.blk → i = j
  bel : Below w.heap.size w w'

def SFreshN (P : Program) (o : Oper) (ρ : Operand → Value) (H : Heap) (id : Nat) (v : Value) (obs : List AObj) : Prop :=
  ∀ (H2 : Heap), H.sub H2 → ∀ (B : Nat) (E : Env) (a : Act) (w : World) (rd : Option Nat) (n : Nat), OkO rd o → HRel P B E H2 w → Rels E ρ a o → (∀ k, k < obs.length → E (id + k) = none) →
    ∀ (K : Act → World → Prop) (Q : Exit → Act → World → Prop), (∀ E2 v' w', NewN P B E w id obs E2 w' → VRel E2 v v' → K (a.put o.dst v') w') → o.wpIn (FR rd) n P a w K Q

theorem SFreshN.quiet {P : Program} {o : Oper} {ρ : Operand → Value} {H : Heap} {v : Value} (h : SQuietM P o ρ H v) (id : Nat) : SFreshN P o ρ H id v [] := by
  intro H2 hs B E a w rd n hk hH hr _ K Q hK
  exact h H2 hs B E a w rd n hk hH hr K Q fun v' w' hv hb => hK E v' w' ⟨fun _ _ => rfl, fun k ob hk => by simp at hk, fun i j li lj hi => by simp at hi; omega, hb⟩ hv

theorem newN_of {P : Program} {B : Nat} {E E' : Env} {H2 : Heap} {w w' : World} {obs : List AObj} (hB : B ≤ w.heap.size) (hH : HRel P w.heap.size E' (pushAll (roH H2) obs) w') (hs : ∀ ob ∈ obs, Shut ob) (hb : Below w.heap.size w w') (id : Nat) :
    ∃ E2, NewN P B E w id obs E2 w' ∧ ∀ v v2 u, VRel E' v u → (∀ σ : Nat → Option Nat, (∀ k, k < obs.length → σ (id + k) = some (H2.next + k)) → RV σ v v2) → VRel E2 v2 u := by
  have hget : ∀ k ob, obs[k]? = some ob → (pushAll (roH H2) obs).get (H2.next + k) = ob := fun k ob hk => by
    have hlt := (List.getElem?_eq_some_iff.1 hk).1
    rw [pushAll_get, if_pos ⟨Nat.le_add_right _ _, by show H2.next + k < H2.next + obs.length; omega⟩]
    show obs.getD (H2.next + k - H2.next) .dead = ob
    rw [Nat.add_sub_cancel_left, List.getD_eq_getElem?_getD, hk]; rfl
  have hnew : ∀ k ob, obs[k]? = some ob → ∃ l, E' (H2.next + k) = some l ∧ w.heap.size ≤ l.blk ∧ OR P w.heap.size E' w' (H2.next + k) ob := fun k ob hk => by
    have ho := hH.obj (H2.next + k)
    rw [hget k ob hk] at ho
    obtain ⟨l, h1, h2⟩ := (hs ob (List.mem_of_getElem? hk)).loc ho
    exact ⟨l, h1, h2, ho⟩
  have hE2 : ∀ k, k < obs.length → (if id ≤ id + k ∧ id + k < id + obs.length then E' (H2.next + (id + k - id)) else E (id + k)) = E' (H2.next + k) := fun k hk => by
    rw [if_pos ⟨by omega, by omega⟩, Nat.add_sub_cancel_left]
  refine ⟨fun j => if id ≤ j ∧ j < id + obs.length then E' (H2.next + (j - id)) else E j, ⟨fun j hj => if_neg hj, fun k ob hk => ?_, fun i j li lj hi hj h1 h2 he => ?_, hb⟩, fun v v2 u hv hr => ?_⟩
  · have hlt := (List.getElem?_eq_some_iff.1 hk).1
    obtain ⟨l, h1, h2, h3⟩ := hnew k ob hk
    exact ⟨l, (hE2 k hlt).trans h1, h2, (hs ob (List.mem_of_getElem? hk)).or h3 h1 ((hE2 k hlt).trans h1) hB⟩
  · simp only [if_pos hi] at h1
    simp only [if_pos hj] at h2
    have hm : ∀ q, id ≤ q ∧ q < id + obs.length → ((pushAll (roH H2) obs).get (H2.next + (q - id))).mut = true := fun q hq => by
      have hlt : q - id < obs.length := by omega
      rw [hget (q - id) _ (List.getElem?_eq_getElem hlt)]
      exact (hs _ (List.getElem_mem hlt)).mut
    have := hH.inj _ _ li lj h1 h2 (hm i hi) (hm j hj) he
    omega
  · have h1 := hr (fun j => if id ≤ j ∧ j < id + obs.length then some (H2.next + (j - id)) else none) (fun k hk => by
      show (if id ≤ id + k ∧ id + k < id + obs.length then some (H2.next + (id + k - id)) else none) = _
      rw [if_pos ⟨by omega, by omega⟩, Nat.add_sub_cancel_left]) E' u hv
    refine h1.mono fun j l hj => ?_
    simp only [ren] at hj
    show (if id ≤ j ∧ j < id + obs.length then E' (H2.next + (j - id)) else E j) = some l
    by_cases hc : id ≤ j ∧ j < id + obs.length
    · rw [if_pos hc] at hj ⊢; exact hj
    · rw [if_neg hc] at hj; cases hj

/-- A call that makes rows and touches nothing else. -/
def FC (P : Program) (f : FuncId) (args : List Value) (H : Heap) (id : Nat) (v : Value) (obs : List AObj) : Prop :=
  (∀ ob ∈ obs, Shut ob) ∧ ∀ H2, H.sub H2 → ∃ v0, Does P f args (roH H2) v0 (pushAll (roH H2) obs) ∧ ∀ σ : Nat → Option Nat, (∀ k, k < obs.length → σ (id + k) = some (H2.next + k)) → RV σ v0 v
theorem FC.op {P : Program} {f : FuncId} {args : List Value} {H : Heap} {id : Nat} {v : Value} {obs : List AObj} {o : Oper} {c : Call} {ρ : Operand → Value} (ho : o.op = .call c) (hc : calleeA P ρ c = some (f, args)) (h : FC P f args H id v obs) : SFreshN P o ρ H id v obs := by
  intro H2 hs B E a w rd n hk hH hr _ K Q hK
  obtain ⟨args', h1, h2⟩ := enters (P := P) (w := w) ho hc hr
  obtain ⟨v0, hd, hrv⟩ := h.2 H2 hs
  refine wpIn_FR hk h1 ⟨fun h0 => (by cases h0), callsIn_FR ((hd w.heap.size E w args' (roH_rel hH) h2).mono ?_)⟩
  rintro e w' ⟨E', v', g1, g2, g3, g4, rfl⟩
  obtain ⟨E2, k1, k2⟩ := newN_of (B := B) (E := E) hH.base g2 h.1 g4 id
  exact hK E2 v' w' k1 (k2 _ _ _ g3 hrv)

/-- A new variable. -/
def alN (P : Program) (ρ : Operand → Value) (o : Oper) (id : Nat) : Option (Value × List AObj × Prop) :=
  match o.op with
  | .alloc _ => match evW P ρ ⟨0, []⟩ o with
    | some (.pointer (some ⟨0, 0, none⟩), ⟨1, [(0, .cells cs e)]⟩) => bif cs.all c2 then some (.pointer (some ⟨id, 0, none⟩), [.cells cs e], True) else none
    | _ => none
  | _ => none
theorem alN_sound {P : Program} {ρ : Operand → Value} {o : Oper} {id : Nat} {v : Value} {obs : List AObj} {c : Prop} (h : alN P ρ o id = some (v, obs, c)) (H : Heap) : SFreshN P o ρ H id v obs := by
  unfold alN at h
  split at h
  case h_2 => cases h
  rename_i t ho
  split at h
  case h_2 => cases h
  rename_i cs e hev
  obtain ⟨hcl, h⟩ := cond_opt h
  cases h
  intro H2 hs B E a w rd n hk hH hr _ K Q hK
  have h0 : HRel P w.heap.size (fun _ => none) ⟨0, []⟩ w := ⟨Nat.le_refl _, (fun _ _ h => nomatch h), fun _ => trivial, (fun _ _ _ _ h => nomatch h)⟩
  obtain ⟨E', nx, w', h1, h2, h3, h4, h5⟩ := evW_sound hev h0 (a := a) (fun x hx => by simp [ho, Op.operands] at hx)
  rcases h2 with ⟨v', rfl, hvv⟩ | ⟨_, hu⟩
  case inr => cases hu
  obtain ⟨E2, k1, k2⟩ := newN_of (B := B) (E := E) (H2 := ⟨0, []⟩) (obs := [.cells cs e]) hH.base h4 (fun ob hob => by
    simp only [List.mem_singleton] at hob
    subst hob
    exact ⟨cs, e, .inr rfl, List.all_eq_true.1 hcl⟩) h5 id
  exact wpIn_FR hk h1 (hK E2 v' w' k1 (k2 _ _ _ hvv fun σ hσ => .ptr (by simpa using hσ 0 (by simp))))

abbrev FrO := Oper → (Operand → Value) → Heap → Nat → Option (Value × List AObj × Prop)
def SoundF (P : Program) (F : FrO) : Prop := ∀ o ρ H id v obs c, F o ρ H id = some (v, obs, c) → c → SFreshN P o ρ H id v obs
def orF (a b : FrO) : FrO := fun o ρ H id => match a o ρ H id with
  | some r => some r
  | none => b o ρ H id
theorem orF_sound {P : Program} {a b : FrO} (ha : SoundF P a) (hb : SoundF P b) : SoundF P (orF a b) := by
  intro o ρ H id v obs c h
  unfold orF at h
  split at h
  · rename_i x hx; cases h; exact ha _ _ _ _ _ _ _ hx
  · exact hb _ _ _ _ _ _ _ h
/-- Calls of one function. -/
def fcO (P : Program) (f : FuncId) (g : List Value → Heap → Nat → Option (Value × List AObj × Prop)) : FrO := fun o ρ H id => match o.op with
  | .call c => match calleeA P ρ c with
    | some (f', args) => bif Nat.beq f' f then g args H id else none
    | none => none
  | _ => none
theorem fcO_sound {P : Program} {f : FuncId} {g : List Value → Heap → Nat → Option (Value × List AObj × Prop)} (h : ∀ args H id v obs c, g args H id = some (v, obs, c) → c → FC P f args H id v obs) : SoundF P (fcO P f g) := by
  intro o ρ H id v obs c hr hc
  unfold fcO at hr
  split at hr
  case h_2 => cases hr
  rename_i cc ho
  split at hr
  case h_2 => cases hr
  rename_i f' args hca
  obtain ⟨hb, hr2⟩ := cond_opt hr
  have := beqN hb
  subst this
  exact (h _ _ _ _ _ _ hr2 hc).op ho hca

def frOp (P : Program) (F : FrO) (o : Oper) (ρ : Operand → Value) (H : Heap) (id : Nat) : Option (Value × List AObj × Prop) :=
  match F o ρ H id with
  | some r => some r
  | none => match kindOf P ρ o with
    | .read => match evR P ρ H o with
      | some v => some (v, [], True)
      | none => none
    | .write => alN P ρ o id
    | _ => none
theorem frOp_sound {P : Program} {F : FrO} (hF : SoundF P F) : SoundF P (fun o ρ H id => frOp P F o ρ H id) := by
  intro o ρ H id v obs c h hc
  simp only [frOp] at h
  split at h
  · rename_i r hr; cases h; exact hF _ _ _ _ _ _ _ hr hc
  · split at h
    · split at h
      case h_2 => cases h
      rename_i x hx
      cases h
      exact .quiet (.of_ev hx) id
    · exact alN_sound h H
    · cases h
end Go.Abs

namespace Go.Abs
open Go.RowKit (Below)
set_option maxRecDepth 1000000

/-- The heap behind the fresh operations that have been done, each with names of its own. -/
def hsN (H0 : Heap) (obs : Nat → List AObj) (S : Nat → Bool) : Nat → Heap
  | 0 => H0
  | i + 1 => bif S i then pushAll (hsN H0 obs S i) (obs i) else ⟨(hsN H0 obs S i).next + (obs i).length, (hsN H0 obs S i).l⟩
def nmN (H0 : Heap) (obs : Nat → List AObj) : Nat → Nat
  | 0 => H0.next
  | i + 1 => nmN H0 obs i + (obs i).length

section
variable {H0 : Heap} {obs : Nat → List AObj}

theorem hsN_next (S : Nat → Bool) : ∀ i, (hsN H0 obs S i).next = nmN H0 obs i
  | 0 => rfl
  | i + 1 => by
    have ih := hsN_next S i
    simp only [hsN, nmN]
    cases S i with
    | true => rw [cond_true, pushAll_next, ih]
    | false => rw [cond_false]; show (hsN H0 obs S i).next + _ = _; rw [ih]
theorem nmN_mono : ∀ n i, i ≤ n → nmN H0 obs i ≤ nmN H0 obs n
  | 0, i, hi => by rw [show i = 0 by omega]; exact Nat.le_refl _
  | n + 1, i, hi => by
    by_cases e : i = n + 1
    · rw [e]; exact Nat.le_refl _
    · exact Nat.le_trans (nmN_mono n i (by omega)) (by simp [nmN])
theorem hsN_succ (S : Nat → Bool) (i x : Nat) : (hsN H0 obs S (i + 1)).get x = if S i = true ∧ nmN H0 obs i ≤ x ∧ x < nmN H0 obs i + (obs i).length then (obs i).getD (x - nmN H0 obs i) .dead else (hsN H0 obs S i).get x := by
  simp only [hsN]
  cases hS : S i with
  | true => rw [cond_true, pushAll_get, hsN_next]; simp
  | false => rw [cond_false, if_neg (by simp)]; rfl
theorem hsN_dead (hd : ∀ x, H0.next ≤ x → H0.get x = .dead) (S : Nat → Bool) : ∀ i x, nmN H0 obs i ≤ x → (hsN H0 obs S i).get x = .dead
  | 0, x, hx => hd x hx
  | i + 1, x, hx => by
    simp only [nmN] at hx
    rw [hsN_succ, if_neg (by omega)]
    exact hsN_dead hd S i x (by omega)
theorem hsN_sub (hd : ∀ x, H0.next ≤ x → H0.get x = .dead) {S S' : Nat → Bool} : ∀ i, (∀ j, j < i → S j = true → S' j = true) → (hsN H0 obs S i).sub (hsN H0 obs S' i)
  | 0, _ => fun _ _ => rfl
  | i + 1, h => fun x hx => by
    have ih := hsN_sub hd (S := S) (S' := S') i (fun j hj => h j (by omega))
    rw [hsN_succ] at hx
    rw [hsN_succ, hsN_succ]
    by_cases hc : S i = true ∧ nmN H0 obs i ≤ x ∧ x < nmN H0 obs i + (obs i).length
    · rw [if_pos hc, if_pos ⟨h i (by omega) hc.1, hc.2⟩]
    · rw [if_neg hc] at hx ⊢
      rw [if_neg]
      · exact ih x hx
      · intro h2
        exact hx (hsN_dead hd S i x h2.2.1)
theorem hsN_up (hd : ∀ x, H0.next ≤ x → H0.get x = .dead) (S : Nat → Bool) {i : Nat} : ∀ m, i ≤ m → (hsN H0 obs S i).sub (hsN H0 obs S m)
  | 0, hi => by rw [show i = 0 by omega]; exact fun _ _ => rfl
  | m + 1, hi => fun x hx => by
    by_cases e : i = m + 1
    · subst e; rfl
    · have ih := hsN_up hd S (i := i) m (by omega) x hx
      rw [hsN_succ, if_neg]
      · exact ih
      · intro h2
        have := hsN_dead hd S i x (Nat.le_trans (nmN_mono m i (by omega)) h2.2.1)
        exact hx this
theorem hsN_congr {S S' : Nat → Bool} : ∀ i, (∀ j, j < i → S j = S' j) → hsN H0 obs S i = hsN H0 obs S' i
  | 0, _ => rfl
  | i + 1, h => by
    simp only [hsN]
    rw [h i (by omega), hsN_congr i (fun j hj => h j (by omega))]
theorem hsN_congr' {S S' : Nat → Bool} : ∀ i, (∀ j, j < i → S j = S' j ∨ obs j = []) → hsN H0 obs S i = hsN H0 obs S' i
  | 0, _ => rfl
  | i + 1, h => by
    have ih := hsN_congr' (S := S) (S' := S') i (fun j hj => h j (by omega))
    simp only [hsN]
    rcases h i (by omega) with h1 | h1
    · rw [h1, ih]
    · rw [h1, ih]
      have e : ∀ (b : Bool) (H : Heap), (bif b then pushAll H [] else ⟨H.next + ([] : List AObj).length, H.l⟩) = H := fun b H => by cases b <;> rfl
      rw [e, e]
theorem hsN_set {S S' : Nat → Bool} {i : Nat} (h0 : S i = false) (h1 : S' i = true) (hne : ∀ j, j ≠ i → S' j = S j) : ∀ n, i < n → ∀ x, (hsN H0 obs S' n).get x = if nmN H0 obs i ≤ x ∧ x < nmN H0 obs i + (obs i).length then (obs i).getD (x - nmN H0 obs i) .dead else (hsN H0 obs S n).get x
  | 0, h, _ => by omega
  | n + 1, h, x => by
    by_cases e : i = n
    · subst e
      rw [hsN_succ, hsN_succ, hsN_congr (S := S') (S' := S) i (fun j hj => hne j (by omega)), h0, h1]
      simp
    · have ih := hsN_set h0 h1 hne n (by omega) x
      rw [hsN_succ, hsN_succ, hne n (fun h => e h.symm), ih]
      by_cases hc : S n = true ∧ nmN H0 obs n ≤ x ∧ x < nmN H0 obs n + (obs n).length
      · have hm := nmN_mono (H0 := H0) (obs := obs) n (i + 1) (by omega)
        simp only [nmN] at hm
        rw [if_pos hc, if_pos hc, if_neg (by omega)]
      · rw [if_neg hc, if_neg hc]
end

/-- A region: the first m operations are fresh, each later one is ordered behind all ahead of it. -/
structure PhA (P : Program) (ops : Array Oper) (D : Defs) (m : Nat) (fl : Nat → Bool) (H0 : Heap) (obs : Nat → List AObj) (i : Nat) (T : Nat → List Value) (v : Nat → Value) (Hh : Nat → Heap) : Prop where
  f : Fr ops i T v
  fr : ∀ j o, j < i → j < m → ops[j]? = some o → (wantedT ops o ((T j).getD · undef) = false ∧ obs j = []) ∨ (wantedT ops o ((T j).getD · undef) = true ∧ fl j = false ∧ SFreshN P o (ev (T j)) (hsN H0 obs (fun k => bit (Region.before ops) j k) j) (nmN H0 obs j) (v j) (obs j)) ∨
    (wantedT ops o ((T j).getD · undef) = true ∧ fl j = true ∧ obs j = [] ∧ SPure P o (ev (T j)) (v j))
  ef : ∀ j o, j < i → m ≤ j → ops[j]? = some o → wantedT ops o ((T j).getD · undef) = true ∧ SDoes P o (ev (T j)) (Hh j) D (v j) (Hh (j + 1)) D
  h0 : Hh m = hsN H0 obs (fun _ => true) m

def InvN (P : Program) (B N m : Nat) (H0 : Heap) (obs : Nat → List AObj) (Hh : Nat → Heap) (E : Env) (S : Nat → Bool) (w : World) : Prop :=
  ((∀ i, m ≤ i → i < N → S i = false) → HRel P B E (hsN H0 obs S m) w ∧ ∀ f, f < m → S f = false → ∀ k, k < (obs f).length → E (nmN H0 obs f + k) = none) ∧
  (∀ k, m ≤ k → k < N → S k = true → (∀ j, k < j → j < N → S j = false) → HRel P B E (Hh (k + 1)) w) ∧ ∃ H, HRel P B E H w

theorem PhA.any {P : Program} {ops : Array Oper} {D : Defs} {m : Nat} {fl : Nat → Bool} {H0 : Heap} {obs : Nat → List AObj} {T : Nat → List Value} {v : Nat → Value} {Hh : Nat → Heap} (ph : PhA P ops D m fl H0 obs ops.size T v Hh) (hmn : m ≤ ops.size) (hd : ∀ x, H0.next ≤ x → H0.get x = .dead)
    (hord : ∀ i j, m ≤ i → i < ops.size → j < i → (j < m ∧ fl j = true) ∨ bit (Region.before ops) i j = true) (hok : RegOK ops) {Q : Exit → Act → World → Prop} {B : Nat} {rd : Option Nat} {n : Nat} (hk : ∀ (i : Nat) (o : Oper), ops[i]? = some o → OkO rd o) (E0 : Env) (w0 : World)
    (hQ : ∀ E a w, E0.le E → HRel P B E (Hh ops.size) w → TRel E (T ops.size) a.tmps → DsRel E D a.defers → Below B w0 w → Q .normal a w) :
    ∀ (fuel : Nat) (listed : Array Bool) (E : Env) (a : Act) (w : World), listed.size = ops.size → (List.range ops.size).countP (fun j => !listed.getD j false) = fuel →
      (∀ i, listed.getD i false = true → ∀ j, bit (Region.before ops) i j = true → listed.getD j false = true) →
      a.tmps.size = (T 0).length → (∀ t, VRel E (valOf ops v (T 0) (listed.getD · false) ops.size t) (a.tmps.getD t undef)) →
      InvN P B ops.size m H0 obs Hh E (listed.getD · false) w → DsRel E D a.defers → E0.le E → Below B w0 w → wpAnyIn (FR rd) n P .any ops Q fuel listed a w := by
  have hfl : ∀ j, j < m → fl j = true → obs j = [] := fun j hj hf => by
    have ho : ops[j]? = some ops[j] := Array.getElem?_eq_getElem (by omega)
    rcases ph.fr j _ (by omega) hj ho with h | h | h
    · exact h.2
    · rw [h.2.1] at hf; cases hf
    · exact h.2.2.1
  refine wpAny_of_inv ph.f hok (InvN P B ops.size m H0 obs Hh) E0 w0 ?_ ?_ ?_ ?_
  · intro E S S' w hS ⟨h1, h2, hx⟩
    refine ⟨fun h => ?_, fun k k1 k2 k3 k4 => h2 k k1 k2 ((hS k k2).trans k3) fun j j1 j2 => (hS j j2).trans (k4 j j1 j2), hx⟩
    obtain ⟨h3, h4⟩ := h1 fun i i1 i2 => (hS i i2).trans (h i i1 i2)
    rw [hsN_congr (S' := S') m fun j hj => hS j (by omega)] at h3
    exact ⟨h3, fun f hf hfs => h4 f hf ((hS f (by omega)).trans hfs)⟩
  · intro E a w hle ⟨h1, h2, _⟩ ht hD hb
    refine hQ E a w hle ?_ ht hD hb
    by_cases e : m = ops.size
    · have := (h1 fun i i1 i2 => by omega).1
      rw [← ph.h0, e] at this
      exact this
    · have := h2 (ops.size - 1) (by omega) (by omega) rfl fun j j1 j2 => by omega
      rw [show ops.size - 1 + 1 = ops.size by omega] at this
      exact this
  · intro E S w i o hi ho hw hni ⟨h1, h2, hx⟩
    have him : i < m := by
      apply Classical.byContradiction
      intro hc
      have := (ph.ef i o hi (by omega) ho).1
      rw [hw] at this; cases this
    have hob : obs i = [] := by
      rcases ph.fr i o hi him ho with ⟨_, hob⟩ | ⟨hc, _⟩ | ⟨hc, _⟩
      · exact hob
      · rw [hw] at hc; cases hc
      · rw [hw] at hc; cases hc
    have se : ∀ j, j ≠ i → (fun j => if j = i then true else S j) j = S j := fun j hj => if_neg hj
    refine ⟨fun h => ?_, fun k k1 k2 k3 k4 => ?_, hx⟩
    · obtain ⟨h3, h4⟩ := h1 fun j j1 j2 => (se j (by omega)).symm.trans (h j j1 j2)
      refine ⟨h3.ext (Nat.le_of_eq (by rw [hsN_next, hsN_next])) fun x => ?_, fun f hf hfs k hk2 => ?_⟩
      · rw [hsN_set (S := S) (S' := fun j => if j = i then true else S j) hni (by simp) (fun j hj => by simp [hj]) m him x, hob, if_neg (by simp)]
      · refine h4 f hf ?_ k hk2
        have hne : f ≠ i := fun e => by subst e; simp at hfs
        exact (se f hne).symm.trans hfs
    · exact h2 k k1 k2 ((se k (by omega)).symm.trans k3) fun j j1 j2 => (se j (by omega)).symm.trans (k4 j j1 j2)
  · intro E S w i o a hi ho hw hni hpre hpost ⟨h1, h2, hx⟩ hr hD K hK
    by_cases him : i < m
    · have se : ∀ j, j ≠ i → (fun j => if j = i then true else S j) j = S j := fun j hj => if_neg hj
      rcases ph.fr i o hi him ho with ⟨hc, _⟩ | ⟨_, hfi, hfr⟩ | ⟨_, hfi, hob, hpu⟩
      · rw [hw] at hc; cases hc
      case inr.inr =>
        obtain ⟨H1, hH1⟩ := hx
        refine hpu H1 B E a w rd n (hk i o ho) hH1 hr K Q fun v' w' hv hb => hK E v' w' a.defers (.refl E) ⟨fun h => ?_, fun k k1 k2 k3 k4 => ?_, H1, hH1.kept hb⟩ hv (hb.mono hH1.base) hD
        · obtain ⟨h3, h4⟩ := h1 fun j j1 j2 => (se j (by omega)).symm.trans (h j j1 j2)
          refine ⟨(h3.kept hb).ext (Nat.le_of_eq (by rw [hsN_next, hsN_next])) fun x => ?_, fun f hf hfs k hk2 => ?_⟩
          · rw [hsN_set (S := S) (S' := fun j => if j = i then true else S j) hni (by simp) (fun j hj => by simp [hj]) m him x, hob, if_neg (by simp)]
          · refine h4 f hf ?_ k hk2
            have hne : f ≠ i := fun e => by subst e; simp at hfs
            exact (se f hne).symm.trans hfs
        · exact (h2 k k1 k2 ((se k (by omega)).symm.trans k3) fun j j1 j2 => (se j (by omega)).symm.trans (k4 j j1 j2)).kept hb
      have hno : ∀ j, m ≤ j → j < ops.size → S j = false := fun j j1 j2 => by
        cases hS : S j with
        | false => rfl
        | true =>
          have := hpost j hS
          rcases hord j i j1 j2 (by omega) with h | h
          · rw [hfi] at h; cases h.2
          · rw [h] at this; cases this
      obtain ⟨h3, h4⟩ := h1 hno
      have hsub : (hsN H0 obs (fun k => bit (Region.before ops) i k) i).sub (hsN H0 obs S m) :=
        Heap.sub_trans' (hsN_sub hd i fun j _ hb => hpre j hb) (hsN_up hd S m (by omega))
      refine hfr _ hsub B E a w rd n (hk i o ho) h3 hr (h4 i him hni) K Q fun E2 v' w' hN hv => ?_
      have hle : E.le E2 := fun j l hl => by
        by_cases hc : nmN H0 obs i ≤ j ∧ j < nmN H0 obs i + (obs i).length
        · have := h4 i him hni (j - nmN H0 obs i) (by omega)
          rw [show nmN H0 obs i + (j - nmN H0 obs i) = j by omega, hl] at this; cases this
        · rw [hN.out j hc]; exact hl
      have hfin : HRel P B E2 (hsN H0 obs (fun j => if j = i then true else S j) m) w' := by
        refine h3.fillN hN.bel.size (fun k hk => hN.bel.block k hk) hle (Nat.le_of_eq (by rw [hsN_next, hsN_next])) (fun j => ?_) (fun p q lp lq hp hq e1 e2 he => ?_)
        · rw [hsN_set (S := S) (S' := fun j => if j = i then true else S j) hni (by simp) (fun j hj => by simp [hj]) m him j]
          by_cases hc : nmN H0 obs i ≤ j ∧ j < nmN H0 obs i + (obs i).length
          · rw [if_pos hc]
            have hlt : j - nmN H0 obs i < (obs i).length := by omega
            obtain ⟨l, g1, g2, g3⟩ := hN.new (j - nmN H0 obs i) _ (List.getElem?_eq_getElem hlt)
            have ej : nmN H0 obs i + (j - nmN H0 obs i) = j := by omega
            rw [ej] at g1 g3
            have he := h4 i him hni (j - nmN H0 obs i) hlt
            rw [ej] at he
            refine .inr ⟨l, g1, he, ?_, g2, ?_⟩
            · rw [hsN_next]
              have := nmN_mono (H0 := H0) (obs := obs) m (i + 1) (by omega)
              simp only [nmN] at this
              omega
            · rw [List.getD_eq_getElem?_getD, List.getElem?_eq_getElem hlt]; exact g3
          · rw [if_neg hc]
            exact .inl ⟨hN.out j hc, rfl⟩
        · have key : ∀ p lp, E p = none → E2 p = some lp → nmN H0 obs i ≤ p ∧ p < nmN H0 obs i + (obs i).length := fun p lp hp e1 => by
            apply Classical.byContradiction
            intro hc
            rw [hN.out p hc, hp] at e1; cases e1
          exact hN.inj p q lp lq (key p lp hp e1) (key q lq hq e2) e1 e2 he
      refine hK E2 v' w' a.defers hle ⟨fun _ => ⟨hfin, fun f hf hfs k hk2 => ?_⟩, fun k k1 k2 k3 k4 => ?_, _, hfin⟩ hv (hN.bel.mono h3.base) (hD.mono hle)
      · have hne : f ≠ i := fun e => by subst e; simp at hfs
        have hfs := (se f hne).symm.trans hfs
        rw [hN.out]
        · exact h4 f hf hfs k hk2
        · intro hc
          rcases Nat.lt_or_ge f i with hl | hl
          · have := nmN_mono (H0 := H0) (obs := obs) i (f + 1) (by omega)
            simp only [nmN] at this; omega
          · have := nmN_mono (H0 := H0) (obs := obs) f (i + 1) (by omega)
            simp only [nmN] at this; omega
      · exfalso
        have k3 := (se k (by omega)).symm.trans k3
        rw [hno k k1 k2] at k3
        cases k3
    · have him : m ≤ i := by omega
      have hlow : ∀ j, j < i → (j < m ∧ fl j = true) ∨ S j = true := fun j hj => (hord i j him hi hj).imp id (hpre j)
      have hhigh : ∀ j, i < j → j < ops.size → S j = false := fun j j1 j2 => by
        cases hS : S j with
        | false => rfl
        | true =>
          have := hpost j hS
          rcases hord j i (by omega) j2 j1 with h | h
          · omega
          · rw [h] at this; cases this
      have hH : HRel P B E (Hh i) w := by
        by_cases e : i = m
        · subst e
          have := (h1 fun j j1 j2 => by
            by_cases e2 : j = i
            · subst e2; exact hni
            · exact hhigh j (by omega) j2).1
          rw [hsN_congr' (S' := fun _ => true) i fun j hj => (hlow j hj).elim (fun h => .inr (hfl j h.1 h.2)) .inl, ← ph.h0] at this
          exact this
        · have hlo : S (i - 1) = true := (hlow (i - 1) (by omega)).elim (fun h => by omega) id
          have := h2 (i - 1) (by omega) (by omega) hlo fun j j1 j2 => by
            by_cases e2 : j = i
            · subst e2; exact hni
            · exact hhigh j (by omega) j2
          rw [show i - 1 + 1 = i by omega] at this
          exact this
      refine (ph.ef i o hi him ho).2 B E a w rd n (hk i o ho) hH hD hr K Q fun E' v' w' ds' g1 g2 g3 g4 g5 => hK E' v' w' ds' g1 ⟨fun h => ?_, fun k k1 k2 k3 k4 => ?_, _, g2⟩ g3 g4 g5
      · have := h i him hi
        simp at this
      · have : k = i := by
          apply Classical.byContradiction
          intro hne
          rcases Nat.lt_or_ge k i with hl | hl
          · have := k4 i hl hi
            simp at this
          · have k3 : S k = true := (if_neg (c := k = i) (t := true) (e := S k) hne).symm.trans k3
            rw [hhigh k (by omega) k2] at k3; cases k3
        subst this
        exact g2

theorem draw2_sound {P : Program} (hm : P.follows .mixedOrders = true) {id : Nat} {ops : Array Oper} (hreg : regOK ops = true) {D : Defs} {m : Nat} {fl : Nat → Bool} {H0 : Heap} {obs : Nat → List AObj} {T : Nat → List Value} {v : Nat → Value} {Hh : Nat → Heap} (ph : PhA P ops D m fl H0 obs ops.size T v Hh) (hmn : m ≤ ops.size) (hd : ∀ x, H0.next ≤ x → H0.get x = .dead)
    (hord : ∀ i j, m ≤ i → i < ops.size → j < i → (j < m ∧ fl j = true) ∨ bit (Region.before ops) i j = true) {Q : APost} (hQ : Q .normal (T ops.size) (Hh ops.size) D) : Awp P (.region id ops true) Q (T 0) H0 D := by
  intro B E a w rd n hk hS
  refine wpIn_region_any hm ?_
  have hrep : ∀ j, (Array.replicate ops.size false).getD j false = false := fun j => by
    simp only [Array.getD_eq_getD_getElem?, Array.getElem?_replicate]
    split <;> rfl
  have hz1 : ∀ t n, lastW ops ((Array.replicate ops.size false).getD · false) t n = none := by
    intro t n
    induction n with
    | zero => rfl
    | succ n ih => rw [lastW, if_neg (fun h => by have h1 := h.1; rw [hrep] at h1; cases h1)]; exact ih
  have hcnt : (List.range ops.size).countP (fun j => !(Array.replicate ops.size false).getD j false) = ops.size := by
    rw [List.countP_eq_length.2 (fun j _ => by rw [hrep]; rfl)]
    simp
  refine ph.any hmn hd hord (regOK_spec hreg) hk.region E w (fun E' a' w' k1 k2 k3 k4 k5 => ⟨E', T ops.size, Hh ops.size, D, hQ, k1, ⟨k2, k3, k4⟩, k5⟩) ops.size _ E a _ (by simp) hcnt (fun i hi => by rw [hrep] at hi; cases hi) hS.tmps.size (fun t => ?_) ?_ hS.defs (.refl E) (.drew (.refl B w))
  · unfold valOf
    rw [hz1]
    exact hS.tmps.at_ t
  · have hheap := hS.heap.draw (w' := w.drew) rfl
    have hnone : ∀ n x, (hsN H0 obs (fun _ => false) n).get x = H0.get x := by
      intro n x
      induction n with
      | zero => rfl
      | succ n ih => rw [hsN_succ, if_neg (by simp)]; exact ih
    refine ⟨fun _ => ⟨?_, fun f hf _ k hk2 => ?_⟩, fun k _ _ k3 => absurd ((hrep k).symm.trans k3) (by simp), _, hheap⟩
    · rw [hsN_congr (S' := fun _ => false) m fun j _ => hrep j]
      refine hheap.ext ?_ fun x => hnone m x
      rw [hsN_next]
      exact nmN_mono (H0 := H0) (obs := obs) m 0 (Nat.zero_le _)
    · cases hE : E (nmN H0 obs f + k) with
      | none => rfl
      | some l =>
        have h1 := hS.heap.dom _ _ hE
        have h2 := nmN_mono (H0 := H0) (obs := obs) f 0 (Nat.zero_le _)
        simp only [nmN] at h2
        omega
end Go.Abs

namespace Go.Abs
open Go.RowKit (Below)
set_option maxRecDepth 1000000

def okD (T : List Value) (o : Oper) : Bool := match o.dst with
  | some d => Nat.blt d T.length
  | none => true
theorem okD_spec {T : List Value} {o : Oper} (h : okD T o = true) : ∀ d, o.dst = some d → d < T.length := fun d hd => by
  unfold okD at h
  rw [hd] at h
  simpa [Nat.blt_eq] using h
def obF (os : List (List AObj)) (i : Nat) : List AObj := os.getD i []
def flF (fs : List Bool) (i : Nat) : Bool := fs.getD i false
def bitS (bs : Array Nat) (i k : Nat) : Bool := bit bs i k

/-- The fresh operations, in the text's order. -/
def nEv (P : Program) (F : FrO) (ops : Array Oper) (bs : Array Nat) (H0 : Heap) (os : List (List AObj)) (fs : List Bool) : List Oper → Nat → List Value → Prop → Option (List Value × Prop)
  | [], _, T, L => some (T, L)
  | o :: rest, i, T, L => bif okOper ops T o && okD T o then
      bif wantedT ops o (T.getD · undef) then
        bif flF fs i then
          bif isRead o.op then none else (match evR P (ev T) ⟨0, []⟩ o with
          | some v => nEv P F ops bs H0 os fs rest (i + 1) (putA T o.dst v) (obF os i = [] ∧ L)
          | none => none)
        else match frOp P F o (ev T) (hsN H0 (obF os) (bitS bs i) i) (nmN H0 (obF os) i) with
        | some (v, ob, c) => nEv P F ops bs H0 os fs rest (i + 1) (putA T o.dst v) (c ∧ ob = obF os i ∧ L)
        | none => none
      else nEv P F ops bs H0 os fs rest (i + 1) (putA T o.dst undef) (obF os i = [] ∧ L)
    else none
/-- The rest, in the text's order. -/
def eEv (P : Program) (call : CallF) (ops : Array Oper) : List Oper → List Value → Heap → Defs → Prop → Option (List Value × Heap × Prop)
  | [], T, H, _, L => some (T, H, L)
  | o :: rest, T, H, D, L => bif okOper ops T o && okD T o && wantedT ops o (T.getD · undef) then
      (match rEv P call ops [{ o with guard := none }] T H D with
      | some (T', H', D') => eEv P call ops rest T' H' D (D' = D ∧ L)
      | none => none)
    else none

section
variable {P : Program} {ops : Array Oper} {D : Defs} {m : Nat} {H0 : Heap} {fl : Nat → Bool}

theorem putA_len (T : List Value) (d : Option Tmp) (v : Value) : (putA T d v).length = T.length := by
  unfold putA
  split
  · rw [List.length_set]
  · rfl

theorem PhA.ext1 {obs : Nat → List AObj} {i : Nat} {T : Nat → List Value} {v : Nat → Value} {Hh : Nat → Heap} (ph : PhA P ops D m fl H0 obs i T v Hh) (him : i < m) {o : Oper} (ho : ops[i]? = some o) (x : Value) (hok : okOper ops (T i) o = true) (hdst : ∀ d, o.dst = some d → d < (T 0).length)
    (h : (x = undef ∧ wantedT ops o ((T i).getD · undef) = false ∧ obs i = []) ∨ (wantedT ops o ((T i).getD · undef) = true ∧ fl i = false ∧ SFreshN P o (ev (T i)) (hsN H0 obs (fun k => bit (Region.before ops) i k) i) (nmN H0 obs i) x (obs i)) ∨
      (wantedT ops o ((T i).getD · undef) = true ∧ fl i = true ∧ obs i = [] ∧ SPure P o (ev (T i)) x)) :
    PhA P ops D m fl H0 obs (i + 1) (upd T (i + 1) (putA (T i) o.dst x)) (upd v i x) Hh := by
  refine ⟨ph.f.extend o ho x hok hdst (fun hw => ?_), fun j oj hj hjm hoj => ?_, fun j oj hj hjm => by omega, ph.h0⟩
  · rcases h with h | h | h
    · exact h.1
    · rw [h.1] at hw; cases hw
    · rw [h.1] at hw; cases hw
  · rw [upd_ne _ _ (by omega)]
    by_cases e : j = i
    · subst e
      rw [ho] at hoj; cases hoj
      rw [upd_eq]
      exact h.imp (fun h => h.2) id
    · rw [upd_ne _ _ e]
      exact ph.fr j oj (by omega) hjm hoj

theorem PhA.ext2 {obs : Nat → List AObj} {i : Nat} {T : Nat → List Value} {v : Nat → Value} {Hh : Nat → Heap} (ph : PhA P ops D m fl H0 obs i T v Hh) (him : m ≤ i) {o : Oper} (ho : ops[i]? = some o) (x : Value) (H1 : Heap) (hok : okOper ops (T i) o = true) (hdst : ∀ d, o.dst = some d → d < (T 0).length)
    (hw : wantedT ops o ((T i).getD · undef) = true) (h : SDoes P o (ev (T i)) (Hh i) D x H1 D) :
    PhA P ops D m fl H0 obs (i + 1) (upd T (i + 1) (putA (T i) o.dst x)) (upd v i x) (upd Hh (i + 1) H1) := by
  refine ⟨ph.f.extend o ho x hok hdst (fun hw2 => by rw [hw] at hw2; cases hw2), fun j oj hj hjm hoj => ?_, fun j oj hj hjm hoj => ?_, by rw [upd_ne _ _ (by omega)]; exact ph.h0⟩
  · rw [upd_ne _ _ (by omega), upd_ne _ _ (by omega)]
    exact ph.fr j oj (by omega) hjm hoj
  · rw [upd_ne T _ (by omega)]
    by_cases e : j = i
    · subst e
      rw [ho] at hoj; cases hoj
      rw [upd_eq, upd_eq, upd_ne _ _ (by omega)]
      exact ⟨hw, h⟩
    · rw [upd_ne _ _ e, upd_ne _ _ (by omega), upd_ne _ _ (by omega)]
      exact ph.ef j oj (by omega) hjm hoj

theorem nEv_ph {F : FrO} (hF : SoundF P F) {os : List (List AObj)} {fs : List Bool} {Hh : Nat → Heap} (hmn : m ≤ ops.size) : ∀ (rest : List Oper) (i : Nat) (T : Nat → List Value) (v : Nat → Value) (L : Prop) (T1 : List Value) (L1 : Prop),
    (ops.toList.take m).drop i = rest → i ≤ m → PhA P ops D m (flF fs) H0 (obF os) i T v Hh → (T i).length = (T 0).length → nEv P F ops (Region.before ops) H0 os fs rest i (T i) L = some (T1, L1) → L1 →
    L ∧ ∃ T' v', PhA P ops D m (flF fs) H0 (obF os) m T' v' Hh ∧ T' 0 = T 0 ∧ T' m = T1 ∧ (T' m).length = (T' 0).length
  | [], i, T, v, L, T1, L1, hd, hi, ph, hl, h, hL => by
    have : i = m := by
      have := congrArg List.length hd
      simp at this
      omega
    subst this
    simp only [nEv, Option.some.injEq, Prod.mk.injEq] at h
    exact ⟨h.2 ▸ hL, T, v, ph, rfl, h.1, hl⟩
  | o :: rest, i, T, v, L, T1, L1, hd, hi, ph, hl, h, hL => by
    have him : i < m := by
      have := congrArg List.length hd
      simp at this
      omega
    have ho : ops[i]? = some o := by
      have : ((ops.toList.take m).drop i)[0]? = some o := by rw [hd]; rfl
      rw [List.getElem?_drop, List.getElem?_take, if_pos (by omega)] at this
      simpa using this
    have hrest : (ops.toList.take m).drop (i + 1) = rest := by
      rw [← List.drop_drop, hd]; rfl
    simp only [nEv] at h
    obtain ⟨hok, h⟩ := cond_opt h
    simp only [Bool.and_eq_true] at hok
    have hdst : ∀ d, o.dst = some d → d < (T 0).length := fun d hdd => by rw [← hl]; exact okD_spec hok.2 d hdd
    have go : ∀ (x : Value) (L2 : Prop), PhA P ops D m (flF fs) H0 (obF os) (i + 1) (upd T (i + 1) (putA (T i) o.dst x)) (upd v i x) Hh → nEv P F ops (Region.before ops) H0 os fs rest (i + 1) (putA (T i) o.dst x) L2 = some (T1, L1) →
        L2 ∧ ∃ T' v', PhA P ops D m (flF fs) H0 (obF os) m T' v' Hh ∧ T' 0 = T 0 ∧ T' m = T1 ∧ (T' m).length = (T' 0).length := fun x L2 ph2 h2 => by
      obtain ⟨g1, T', v', g2, g3, g4, g5⟩ := nEv_ph hF hmn rest (i + 1) _ _ L2 T1 L1 hrest (by omega) ph2 (by rw [upd_eq, upd_ne _ _ (by omega), putA_len]; exact hl) (by rw [upd_eq]; exact h2) hL
      exact ⟨g1, T', v', g2, by rw [g3, upd_ne _ _ (by omega)], g4, g5⟩
    rcases cond_bool h with ⟨hw, h⟩ | ⟨hw, h⟩
    · rcases cond_bool h with ⟨hf, h⟩ | ⟨hf, h⟩
      · rcases cond_bool h with ⟨hrd, h⟩ | ⟨hrd, h⟩
        · cases h
        split at h
        case h_2 => cases h
        rename_i x hx
        have hLc : obF os i = [] ∧ L := nEv_L rest (i + 1) _ _ T1 L1 h hL
        obtain ⟨g1, g2⟩ := go x _ (ph.ext1 him ho x hok.1 hdst (.inr (.inr ⟨hw, hf, hLc.1, fun H2 => .of_ev (by rw [evR_noheap hrd H2 ⟨0, []⟩]; exact hx)⟩))) h
        exact ⟨g1.2, g2⟩
      split at h
      case h_2 => cases h
      rename_i x ob c hfr
      -- the conditions come first
      have hLc : c ∧ ob = obF os i ∧ L := nEv_L rest (i + 1) _ _ T1 L1 h hL
      obtain ⟨hc, hob, _⟩ := hLc
      subst hob
      obtain ⟨g1, g2⟩ := go x _ (ph.ext1 him ho x hok.1 hdst (.inr (.inl ⟨hw, hf, frOp_sound hF _ _ _ _ _ _ _ hfr hc⟩))) h
      exact ⟨g1.2.2, g2⟩
    · have hLc : obF os i = [] ∧ L := nEv_L rest (i + 1) _ _ T1 L1 h hL
      obtain ⟨g1, g2⟩ := go undef _ (ph.ext1 him ho undef hok.1 hdst (.inl ⟨rfl, hw, hLc.1⟩)) h
      exact ⟨g1.2, g2⟩
where nEv_L {F : FrO} {os : List (List AObj)} {fs : List Bool} : ∀ (rest : List Oper) (i : Nat) (T : List Value) (L : Prop) (T1 : List Value) (L1 : Prop), nEv P F ops (Region.before ops) H0 os fs rest i T L = some (T1, L1) → L1 → L
  | [], i, T, L, T1, L1, h, hL => by
    simp only [nEv, Option.some.injEq, Prod.mk.injEq] at h
    exact h.2 ▸ hL
  | o :: rest, i, T, L, T1, L1, h, hL => by
    simp only [nEv] at h
    obtain ⟨_, h⟩ := cond_opt h
    rcases cond_bool h with ⟨hw, h⟩ | ⟨hw, h⟩
    · rcases cond_bool h with ⟨hf, h⟩ | ⟨hf, h⟩
      · rcases cond_bool h with ⟨hrd, h⟩ | ⟨hrd, h⟩
        · cases h
        split at h
        case h_2 => cases h
        exact (nEv_L rest _ _ _ _ _ h hL).2
      split at h
      case h_2 => cases h
      exact (nEv_L rest _ _ _ _ _ h hL).2.2
    · exact (nEv_L rest _ _ _ _ _ h hL).2

theorem eEv_L {call : CallF} : ∀ (rest : List Oper) (T : List Value) (H : Heap) (L : Prop) (T1 : List Value) (H1 : Heap) (L1 : Prop), eEv P call ops rest T H D L = some (T1, H1, L1) → L1 → L
  | [], T, H, L, T1, H1, L1, h, hL => by
    simp only [eEv, Option.some.injEq, Prod.mk.injEq] at h
    exact h.2.2 ▸ hL
  | o :: rest, T, H, L, T1, H1, L1, h, hL => by
    simp only [eEv] at h
    obtain ⟨_, h⟩ := cond_opt h
    split at h
    case h_2 => cases h
    exact (eEv_L rest _ _ _ _ _ _ h hL).2

theorem eEv_ph {call : CallF} (hc : ∀ f args H v h, call f args H = some (v, h) → Does P f args H v (h.getD H)) {obs : Nat → List AObj} : ∀ (rest : List Oper) (i : Nat) (T : Nat → List Value) (v : Nat → Value) (Hh : Nat → Heap) (L : Prop) (T1 : List Value) (H1 : Heap) (L1 : Prop),
    ops.toList.drop i = rest → i ≤ ops.size → m ≤ i → PhA P ops D m fl H0 obs i T v Hh → (T i).length = (T 0).length → eEv P call ops rest (T i) (Hh i) D L = some (T1, H1, L1) → L1 →
    L ∧ ∃ T' v' Hh', PhA P ops D m fl H0 obs ops.size T' v' Hh' ∧ T' 0 = T 0 ∧ T' ops.size = T1 ∧ Hh' ops.size = H1
  | [], i, T, v, Hh, L, T1, H1, L1, hd, hi, hmi, ph, hl, h, hL => by
    have : i = ops.size := by
      have := congrArg List.length hd
      simp at this
      omega
    subst this
    simp only [eEv, Option.some.injEq, Prod.mk.injEq] at h
    exact ⟨h.2.2 ▸ hL, T, v, Hh, ph, rfl, h.1, h.2.1⟩
  | o :: rest, i, T, v, Hh, L, T1, H1, L1, hd, hi, hmi, ph, hl, h, hL => by
    have hi' : i < ops.size := by
      have := congrArg List.length hd
      simp at this
      omega
    have ho : ops[i]? = some o := by
      have : (ops.toList.drop i)[0]? = some o := by rw [hd]; rfl
      simpa using this
    have hrest : ops.toList.drop (i + 1) = rest := by
      rw [← List.drop_drop, hd]; rfl
    simp only [eEv] at h
    obtain ⟨hok, h⟩ := cond_opt h
    simp only [Bool.and_eq_true] at hok
    have hdst : ∀ d, o.dst = some d → d < (T 0).length := fun d hdd => by rw [← hl]; exact okD_spec hok.1.2 d hdd
    split at h
    case h_2 => cases h
    rename_i T2 H2 D2 hx
    obtain ⟨hD, _⟩ := eEv_L rest _ _ _ _ _ _ h hL
    obtain ⟨x, H3, D3, k1, e1, e2, e3⟩ := run_unguard (rEv_sound hc _ _ _ _ _ _ _ hx)
    subst e1 e2
    rw [e3, hD] at k1
    obtain ⟨g1, T', v', Hh', g2, g3, g4, g5⟩ := eEv_ph hc rest (i + 1) _ _ _ _ T1 H1 L1 hrest (by omega) (by omega) (ph.ext2 hmi ho x H3 hok.1.1 hdst hok.2 k1) (by rw [upd_eq, upd_ne _ _ (by omega), putA_len]; exact hl) (by rw [upd_eq, upd_eq]; exact h) hL
    exact ⟨g1.2, T', v', Hh', g2, by rw [g3, upd_ne _ _ (by omega)], g4, g5⟩
end

def ordB (bs : Array Nat) (fs : List Bool) (m n : Nat) : Bool := (List.range n).all fun i => Nat.blt i m || (List.range i).all fun j => (Nat.blt j m && flF fs j) || bit bs i j
theorem ordB_spec {bs : Array Nat} {fs : List Bool} {m n : Nat} (h : ordB bs fs m n = true) : ∀ i j, m ≤ i → i < n → j < i → (j < m ∧ flF fs j = true) ∨ bit bs i j = true := by
  intro i j hi hn hj
  have h1 := List.all_eq_true.1 h i (List.mem_range.2 hn)
  have h2 : Nat.blt i m = false := by
    cases hb : Nat.blt i m with
    | false => rfl
    | true => have : i < m := by simpa [Nat.blt_eq] using hb
              omega
  rw [h2, Bool.false_or] at h1
  have h3 := List.all_eq_true.1 h1 j (List.mem_range.2 hj)
  simp only [Bool.or_eq_true, Bool.and_eq_true] at h3
  exact h3.imp (fun h => ⟨by simpa [Nat.blt_eq] using h.1, h.2⟩) id

/-- A region whose first m operations are fresh. -/
def dx (P : Program) (F : FrO) (call : CallF) (ops : Array Oper) (m : Nat) (os : List (List AObj)) (fs : List Bool) (s : St3) : Option (Ex × St3) :=
  bif regOK ops && Nat.ble m ops.size && ordB (Region.before ops) fs m ops.size && s.H.l.all (fun p => Nat.blt p.1 s.H.next) then
    (match nEv P F ops (Region.before ops) s.H os fs (ops.toList.take m) 0 s.T s.L with
    | some (T1, L1) => match eEv P call ops (ops.toList.drop m) T1 (hsN s.H (obF os) (fun _ => true) m) s.D L1 with
      | some (T2, H2, L2) => some (.normal, ⟨⟨T2, H2, s.D⟩, L2⟩)
      | none => none
    | none => none) else none

theorem dx_sound {P : Program} (hm : P.follows .mixedOrders = true) {F : FrO} (hF : SoundF P F) {call : CallF} (hc : ∀ f args H v h, call f args H = some (v, h) → Does P f args H v (h.getD H)) {id : Nat} {ops : Array Oper} {m : Nat} {os : List (List AObj)} {fs : List Bool} {s : St3} {r : Ex × St3} (h : dx P F call ops m os fs s = some r) (hL : r.2.L) :
    s.L ∧ r.1 = .normal ∧ Awp P (.region id ops true) (Is3 r) s.T s.H s.D := by
  unfold dx at h
  obtain ⟨hb, h⟩ := cond_opt h
  simp only [Bool.and_eq_true] at hb
  obtain ⟨⟨⟨b1, b2⟩, b3⟩, b4⟩ := hb
  have hmn : m ≤ ops.size := bleN b2
  have hdead : ∀ x, s.H.next ≤ x → s.H.get x = .dead := fun x hx => by
    rcases look_mem (l := s.H.l) (j := x) with h0 | h0
    · exact h0
    · have := List.all_eq_true.1 b4 _ h0
      have : x < s.H.next := by simpa [Nat.blt_eq] using this
      omega
  split at h
  case h_2 => cases h
  rename_i T1 L1 h1
  split at h
  case h_2 => cases h
  rename_i T2 H2 L2 h2
  cases h
  have hL1 : L1 := eEv_L _ _ _ _ _ _ _ h2 hL
  have ph0 : PhA P ops s.D m (flF fs) s.H (obF os) 0 (fun _ => s.T) (fun _ => undef) (fun _ => hsN s.H (obF os) (fun _ => true) m) :=
    ⟨⟨fun i o h => by omega, fun i o d h => by omega, fun i o h => by omega, fun i o h => by omega⟩, fun j o h => by omega, fun j o h => by omega, rfl⟩
  obtain ⟨hl, T', v', ph1, e0, e1, e2⟩ := nEv_ph hF hmn (ops.toList.take m) 0 _ _ s.L T1 L1 rfl (Nat.zero_le _) ph0 rfl h1 hL1
  obtain ⟨_, T'', v'', Hh, ph2, f0, f1, f2⟩ := eEv_ph hc (ops.toList.drop m) m _ _ _ L1 T2 H2 L2 rfl hmn (Nat.le_refl _) ph1 e2 (by rw [e1]; exact h2) hL
  have hT : T'' 0 = s.T := f0.trans e0
  refine ⟨hl, rfl, ?_⟩
  rw [← hT]
  exact draw2_sound hm b1 ph2 hmn hdead (ordB_spec b3) ⟨rfl, f1, f2, rfl⟩

end Go.Abs

