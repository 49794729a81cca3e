/- A part of the proof that the law ManifestProofs returns true at every input and leaves its arguments as they were; no condition. -/
import Derived.Test.YtkkocgjpfakfpaaGreatSBa
set_option linter.unusedSimpArgs false
set_option linter.unusedVariables false
namespace Go.Abs
open Go.RowKit (Below)

/-- The way out of a function in which a range over a function stands: the marks are taken up. -/
def LeavesM (P : Program) (fn : Func) (tmps : Array Value) (R : Ending → World → Prop) : List Deferred → World → Prop
  | [], w => ∃ v, (results fn tmps).run P w = .ok v w ∧ R (.returned v) w
  | d :: ds, w => (∃ r w', d.target = .collected r ∧ (Instr.takeDeferred r).run P w = .ok [] w' ∧ LeavesM P fn tmps R ds w') ∨
      (∃ fv cap f args, d.target = .fn fv cap ∧ (invoke d.target d.args).run P w = .ok (.enter f args) w ∧
        CallsD P f args .returning w fun e u' w' => (∃ v, e = .returned v) ∧ u' = .returning ∧ LeavesM P fn tmps R ds w')

theorem leavesM_steps {P : Program} {fn : Func} {tmps : Array Value} {R : Ending → World → Prop} : ∀ (ds : List Deferred) (w : World) (fr : Frame)
    (cs : List Frame), fr.mode = .returning → fr.defers = ds → fr.tmps = tmps → P.funcs[fr.fn]? = some fn → fr.kind = .normal → LeavesM P fn tmps R ds w →
    ∃ e w' fr', R e w' ∧ Comes P (lone fr cs w) (lone fr' cs w') e ∧ fr'.fn = fr.fn ∧ fr'.leaving P w' e := by
  intro ds
  induction ds with
  | nil =>
    intro w fr cs hu hd ht hf hk h
    obtain ⟨v, hr, hR⟩ := h
    exact ⟨.returned v, w, fr, hR, Steps.refl P _, rfl, hu, hd, hk, fn, hf, ht ▸ hr⟩
  | cons d ds ih =>
    intro w fr cs hu hd ht hf hk h
    rcases h with ⟨r, w', htar, htake, hrest⟩ | ⟨fv, cap, f, args, htar, hinv, hcall⟩
    · have h1 := step_collected (cs := cs) (by rw [hu]; simp) hd htar htake
      obtain ⟨e', w'', fr', hR', hs', hfn', hl'⟩ := ih w' { fr with defers := [] ++ ds } cs hu rfl ht hf hk hrest
      exact ⟨e', w'', fr', hR', Comes.of_steps (.one h1) hs', hfn', hl'⟩
    · have h1 := step_defer (cs := cs) (by rw [hu]; simp) hd htar hinv
      obtain ⟨e, u', w', frX, ⟨⟨v, rfl⟩, rfl, hR⟩, hsteps, hkX, hgo⟩ := hcall { fr with defers := ds } cs hu
      have h2 := step_going_returned (c := { { fr with defers := ds } with mode := .returning }) (cs := cs) hkX hgo
      obtain ⟨e', w'', fr', hR', hs', hfn', hl'⟩ := ih w' { { { fr with defers := ds } with mode := .returning } with mode := settle .returning } cs rfl rfl ht hf hk hR
      exact ⟨e', w'', fr', hR', Comes.of_steps (.head h1 (Steps.trans hsteps (.one h2))) hs', hfn', hl'⟩

theorem calls_of_wp_marks {P : Program} {f : FuncId} {fn : Func} {c : Code} {args : Array Value} {w : World} {R : Ending → World → Prop}
    (hf : P.funcs[f]? = some fn) (hb : fn.body = some c)
    (h : c.wp P (fun e a w => (e = .normal ∨ e = .ret) ∧ LeavesM P fn a.tmps R a.defers w) { tmps := args ++ Array.replicate (fn.ntmps - args.size) undef, defers := [] } w) : Calls P f args w R := by
  intro cs
  let b : Frame := { (default : Frame) with fn := f, kind := .normal }
  have henter : Frame.enter P f args .normal =
      b.at { tmps := args ++ Array.replicate (fn.ntmps - args.size) undef, defers := [] } [.code c] := by
    simp [Frame.enter, Frame.at, hf, hb, b]
  obtain ⟨e, a', w', ⟨he, hq⟩, harr⟩ := h b [] cs
  rw [← henter] at harr
  rcases he with rfl | rfl
  · obtain ⟨e', w'', fr', hR, hs, hfn, hl⟩ := leavesM_steps a'.defers w' { b.at a' [] with mode := .returning } cs rfl rfl rfl hf rfl hq
    exact ⟨e', w'', fr', hR, Comes.of_steps (Steps.trans harr (.one step_end)) hs, hfn, hl⟩
  · obtain ⟨todo, hs₀⟩ := harr
    obtain ⟨e', w'', fr', hR, hs, hfn, hl⟩ := leavesM_steps a'.defers w' { b.at a' todo with mode := .returning } cs rfl rfl rfl hf rfl hq
    exact ⟨e', w'', fr', hR, Comes.of_steps hs₀ hs, hfn, hl⟩

/-- The marks of a function, and the heap behind them. -/
def okM (P : Program) : Defs → Heap → Bool
  | [], _ => true
  | d :: D, H => bif Nat.beq d.1 markF then (match d.2 with
      | [.pointer (some ⟨id, 0, none⟩)] => (match H.get id with
        | .df => okM P D (H.put id .dead)
        | _ => false)
      | _ => false) else quietDefer P d.1 && callable P d.1 && okM P D H
def killM : Defs → Heap → Heap
  | [], H => H
  | d :: D, H => bif Nat.beq d.1 markF then (match d.2 with
      | [.pointer (some ⟨id, _, none⟩)] => killM D (H.put id .dead)
      | _ => killM D H) else killM D H

theorem below_putObj {B : Nat} {w : World} {r : Nat} (o : Obj) (h : B ≤ r) : Below B w (w.putObj r o) :=
  ⟨rfl, rfl, rfl, by simp, fun k hk => World.putObj_heap_other (by omega)⟩

theorem leaves_marks {P : Program} {fn : Func} {tmps : Array Value} {R : Ending → World → Prop} {B : Nat} {E : Env} : ∀ (D : Defs) (ds : List Deferred) (H : Heap) (w : World), HRel P B E H w → DsRel E D ds → okM P D H = true →
    (∀ w', HRel P B E (killM D H) w' → Below B w w' → ∃ v, (results fn tmps).run P w' = .ok v w' ∧ R (.returned v) w') → LeavesM P fn tmps R ds w
  | _, _, H, w, hH, .nil, _, hres => hres w hH (.refl B w)
  | d :: D, d' :: ds, H, w, hH, .cons hd ht, hok, hres => by
    obtain ⟨c', a', rfl, hA⟩ := hd
    unfold okM at hok
    unfold killM at hres
    cases hmk : Nat.beq d.1 markF with
    | true =>
      rw [hmk] at hok hres
      simp only [cond_true] at hok hres
      split at hok
      case h_2 => cases hok
      rename_i id hd2
      split at hok
      case h_2 => cases hok
      rename_i hg
      simp only [hd2] at hres
      have hobj := hH.obj id
      rw [hg] at hobj
      obtain ⟨l, h1, h2, h3, h4⟩ := hobj
      have hblk : blkOf (a' ++ c') = l.blk := by
        have h0 := hA.at_ 0
        rw [hd2] at h0
        have hsz : (a' ++ c').size = 1 := by have := hA.size; rw [hd2] at this; simpa using this.symm
        have e1 : (a' ++ c').getD 0 undef = (a' ++ c')[0]'(by omega) := by simp only [Array.getD, hsz]; simp
        rw [e1] at h0
        have e2 : (a' ++ c')[0]? = some ((a' ++ c')[0]'(by omega)) := Array.getElem?_eq_getElem _
        unfold blkOf
        rw [e2]
        generalize (a' ++ c')[0]'(by omega) = u at h0
        simp at h0
        cases h0 with
        | ptr _ _ l' hl' => rw [h1] at hl'; cases hl'; rfl
      left
      refine ⟨l.blk, w.putObj l.blk (.deferred none), by simp [mkD, hmk, hblk], run_takeDeferred h4, ?_⟩
      have hH' : HRel P B E (H.put id .dead) (w.putObj l.blk (.deferred none)) := hH.update h1 (by rw [hg]; rfl) (by simp) (fun k hk => World.putObj_heap_other hk) trivial
      exact leaves_marks D ds _ _ hH' ht hok fun w' k1 k2 => hres w' k1 ((below_putObj _ h3).trans k2)
    | false =>
      rw [hmk] at hok hres
      simp only [cond_false, Bool.and_eq_true] at hok hres
      obtain ⟨⟨hq, hc⟩, hok⟩ := hok
      right
      refine ⟨.func d.1, c', d.1, a' ++ c', by simp [mkD, hmk], ?_, ?_⟩
      · rw [mkD_fn hmk]
        simp only [invoke]
        exact run_callFunc hc _ w
      · refine (quietDefer_sound hq (a' ++ c') w).mono ?_
        rintro e u' w' ⟨⟨v, rfl⟩, rfl, rfl⟩
        exact ⟨⟨v, rfl⟩, rfl, leaves_marks D ds H _ hH ht hok hres⟩

/-- A function's body, marks and all. -/
theorem awp_weakM {P : Program} {f : FuncId} {fn : Func} {c : Code} (hf : P.funcs[f]? = some fn) (hb : fn.body = some c) {args : List Value} {H : Heap} {R : Value → Heap → Prop}
    (h : Awp P c (fun ex T' H' D' => (ex = .normal ∨ ex = .ret) ∧ okM P D' H' = true ∧ ∃ v, resA P fn T' (killM D' H') = some v ∧ R v (killM D' H')) (args ++ List.replicate (fn.ntmps - args.length) undef) H [])
    (B : Nat) (E : Env) (w : World) (args' : Array Value) (hH : HRel P B E H w) (hA : LRel E args args') :
    Calls P f args' w fun e w' => ∃ E' v v' H', R v H' ∧ E.le E' ∧ HRel P B E' H' w' ∧ VRel E' v v' ∧ Below B w w' ∧ e = .returned v' := by
  have hlen : args.length = args'.size := by simpa using hA.size
  have hT := tmps_of_args (n := fn.ntmps) hA
  refine calls_of_wp_marks hf hb (wp_mono ((wpIn_wide (n := 0)).1 (h B E { tmps := args' ++ Array.replicate (fn.ntmps - args'.size) undef, defers := [] } w none 0 (.inl rfl) ⟨hH, hT, .nil⟩)) ?_)
  rintro e a' w' ⟨E', T', H'', D', ⟨he, hq, v, hr, hR⟩, hle, hS, hbel⟩
  refine ⟨he, leaves_marks D' a'.defers H'' w' hS.heap hS.defs hq fun w2 hH2 hb2 => ?_⟩
  obtain ⟨v', k1, k2⟩ := resA_sound hr hH2 hS.tmps.at_
  exact ⟨v', k1, E', v, v', _, hR, hle, hH2, k2, hbel.trans hb2, rfl⟩

theorem val_of_awpM {P : Program} {f : FuncId} {fn : Func} {c : Code} (hf : P.funcs[f]? = some fn) (hb : fn.body = some c) {args : List Value} {H : Heap} {v : Value} (hv : c2 v = true)
    (h : Awp P c (fun ex T' H' D' => (ex = .normal ∨ ex = .ret) ∧ okM P D' H' = true ∧ ∃ u, resA P fn T' (killM D' H') = some u ∧ u = v ∧ Keep H (killM D' H')) (args ++ List.replicate (fn.ntmps - args.length) undef) H []) :
    Does P f args H v H := by
  intro B E w args' hH hA
  refine (awp_weakM (R := fun u H' => u = v ∧ Keep H H') hf hb h B E w args' hH hA).mono ?_
  rintro e w' ⟨E', u, v', H', ⟨rfl, hk⟩, h1, h2, h3, h4, h5⟩
  exact ⟨E, v', .refl E, hH.back h1 h2 hk, by rw [eq_of_c2 h3 hv]; exact .of_c2 hv, h4, h5⟩

/-- The loop's parameters get the arguments of yield. -/
def setPs : List Tmp → List Value → List Value → List Value
  | p :: ps, v :: vs, T => setPs ps vs (T.set p v)
  | _, _, T => T

theorem TRel.of_L {E : Env} {T : List Value} {a : Array Value} (h : LRel E T a) : TRel E T a :=
  ⟨by simpa using h.size.symm, fun t => by have := h.at_ t; simpa [Array.getD_eq_getD_getElem?, List.getD_eq_getElem?_getD] using this⟩
theorem TRel.to_L {E : Env} {T : List Value} {a : Array Value} (h : TRel E T a) : LRel E T a :=
  ⟨by simpa using h.size.symm, fun t => by have := h.at_ t; simpa [Array.getD_eq_getD_getElem?, List.getD_eq_getElem?_getD] using this⟩

theorem setPs_rel {E : Env} : ∀ (ps : List Tmp) (vs us : List Value) (T : List Value) (tm : Array Value), F2 (VRel E) vs us → TRel E T tm →
    TRel E (setPs ps vs T) ((ps.zip us).foldl (fun tmps (p : Tmp × Value) => tmps.setIfInBounds p.1 p.2) tm)
  | [], vs, us, T, tm, _, hT => by simpa [setPs] using hT
  | p :: ps, [], _, T, tm, .nil, hT => by simpa [setPs] using hT
  | p :: ps, v :: vs, u :: us, T, tm, .cons hv ht, hT => by
    simp only [setPs, List.zip_cons_cons, List.foldl_cons]
    exact setPs_rel ps vs us _ _ ht (TRel.put (a := ⟨tm, []⟩) hT (some p) hv)

/-- One round: what the loop's body does with the arguments of yield. -/
def Round1 (P : Program) (id : Nat) (vs : List Value) (H H' : Heap) : Prop :=
  ∃ T g ps asn bod T1 H1 H2, H.get id = .lp T (.rangeFunc g ps asn bod) false ∧ vs.length = ps.size ∧ noDef asn = true ∧ noDef bod = true ∧
    Awp P asn (fun e T' H' D' => e = .normal ∧ T' = T1 ∧ H' = H1 ∧ D' = []) (setPs ps.toList vs T) H [] ∧ H1.get id = .lp T (.rangeFunc g ps asn bod) false ∧
    Awp P bod (fun e _ H' D' => e = .normal ∧ H' = H2 ∧ D' = []) T1 (H1.put id (.lp T (.rangeFunc g ps asn bod) true)) [] ∧ H2.get id = .lp T (.rangeFunc g ps asn bod) true ∧
    H' = H2.put id (.lp T (.rangeFunc g ps asn bod) false)

theorem SDoes.yield {P : Program} {o : Oper} {c : Call} (ho : o.op = .call c) {fo : Operand} (hcal : c.callee = .value fo) {ρ : Operand → Value} {H H' : Heap} (D : Defs) {id : Nat} (hv : ρ fo = .func (.yield (id + 1)) #[] #[])
    (h : Round1 P id (c.args.toList.map ρ) H H') : SDoes P o ρ H D (.bool true) H' D := by
  intro B E a w rd n hk hH hD hr K Q hK
  obtain ⟨T, g, ps, asn, bod, T1, H1, H2, hg, hlen, hna, hnb, ha, hg1, hb, hg2, rfl⟩ := h
  have hargs : ARel E (c.args.map ρ) (c.args.map a.eval) := ARel.map fun x hx => hr x (by simp [ho, Op.operands, Call.operands, hx])
  have hf := hr fo (by simp [ho, Op.operands, Call.operands, hcal])
  rw [hv] at hf
  generalize hcv : a.eval fo = u at hf
  cases hf with
  | func _ _ _ _ _ hf => exact absurd rfl (hf _)
  | yld _ l hl =>
    have hobj := hH.obj id
    rw [hg] at hobj
    obtain ⟨l', r, g', e1, e2, e3, e4, e5, e6, e7, e8⟩ := hobj
    rw [hl] at e1; cases e1
    injection e7 with e71 e72 e73 e74
    have hsz : (c.args.map a.eval).size = r.params.size := by rw [← e72, ← hlen]; simp
    have hrun : (execOp a.eval o).run P w = .ok (.round l.blk r.fn ((r.params.zip (c.args.map a.eval)).foldl (fun tmps (t, a) => tmps.setIfInBounds t a) r.tmps) r.assign r.body) w := by
      have := run_yield (P := P) (args := c.args.map a.eval) e4 hsz
      simp [execOp, ho, resolve, hcal, hcv, Deferred.ofValue, invoke, this]
    refine wpIn_FR hk hrun ⟨fun h => (by cases h), roundIn_of_wpIn trivial ?_⟩
    rw [← e72, ← e73, ← e74]
    have hF2 : F2 (VRel E) (c.args.toList.map ρ) (c.args.map a.eval).toList := by
      have e : LRel E (c.args.toList.map ρ) (c.args.map a.eval) := by rw [LRel, ← Array.toList_map, Array.toArray_toList]; exact hargs
      exact ARel.F2 e
    have hT : TRel E (setPs ps.toList (c.args.toList.map ρ) T) ((ps.zip (c.args.map a.eval)).foldl (fun tmps (t, a) => tmps.setIfInBounds t a) r.tmps) := by
      have := setPs_rel ps.toList _ _ T r.tmps hF2 (TRel.of_L e8)
      rw [← Array.foldl_toList, Array.toList_zip]
      exact this
    refine wpIn_mono (ha B E _ w (some l.blk) (n - 1) (.inr hna) ⟨hH, hT, .nil⟩) ?_
    rintro e a1 w1 ⟨E1, T', H', D', ⟨rfl, rfl, rfl, rfl⟩, k2, k3, k4⟩
    have hobj1 := k3.heap.obj id
    rw [hg1] at hobj1
    obtain ⟨l1, r1, g1, f1, f2, f3, f4, f5, f6, f7, f8⟩ := hobj1
    rw [k2 _ _ hl] at f1; cases f1
    refine ⟨_, run_beginRound f4 f5, ?_⟩
    have hlt1 := (Array.getElem?_eq_some_iff.1 f4).1
    have hHb : HRel P B E1 (H'.put id (.lp T (.rangeFunc g ps asn bod) true)) (w1.putObj l.blk (.loop { r1 with state := .busy })) :=
      k3.heap.update (k2 _ _ hl) (by rw [hg1]; rfl) (by simp) (fun k hk => World.putObj_heap_other hk) ⟨l, _, g1, k2 _ _ hl, f2, f3, World.putObj_heap_same hlt1, rfl, f6, f7, f8⟩
    refine wpIn_mono (hb B E1 a1 _ (some l.blk) (n - 1) (.inr hnb) ⟨hHb, k3.tmps, k3.defs⟩) ?_
    rintro e a2 w2 ⟨E2, T2, H', D2, ⟨rfl, rfl, rfl⟩, q2, q3, q4⟩
    have hobj2 := q3.heap.obj id
    rw [hg2] at hobj2
    obtain ⟨l2, r2, g2, p1, p2, p3, p4, p5, p6, p7, p8⟩ := hobj2
    rw [q2 _ _ (k2 _ _ hl)] at p1; cases p1
    refine ⟨_, _, run_endRound none p4, ?_⟩
    have hlt2 := (Array.getElem?_eq_some_iff.1 p4).1
    have hHe : HRel P B E2 (H'.put id (.lp T (.rangeFunc g ps asn bod) false)) (w2.putObj l.blk (.loop { r2 with state := .ready, pending := none })) :=
      q3.heap.update (q2 _ _ (k2 _ _ hl)) (by rw [hg2]; rfl) (by simp) (fun k hk => World.putObj_heap_other hk) ⟨l, _, g2, q2 _ _ (k2 _ _ hl), p2, p3, World.putObj_heap_same hlt2, rfl, rfl, p7, p8⟩
    have hle := k2.trans q2
    exact hK E2 (.bool true) _ a.defers hle hHe (.bool true) (k4.trans ((below_putObj _ f3).trans (q4.trans (below_putObj _ p3)))) (hD.mono hle)

/-- The statement itself. -/
theorem awp_rangeFunc {P : Program} {g : Operand} {ps : Array Tmp} {asn bod : Code} {Q : APost} {T : List Value} {H : Heap} {D : Defs} {gf : FuncId} {caps : Array Value} (hok : okOperand g = true) (hg : ev T g = .func (.func gf) #[] caps) (hcb : callable P gf = true)
    {v : Value} {H2 : Heap} (hdo : Does P gf (.func (.yield (H.next + 1 + 1)) #[] #[] :: caps.toList) ((H.push .df).push (.lp T (.rangeFunc g ps asn bod) false)) v H2)
    (hl2 : H2.get (H.next + 1) = .lp T (.rangeFunc g ps asn bod) false)
    (hQ : Q .normal T (H2.put (H.next + 1) .dead) ((markF, [.pointer (some ⟨H.next, 0, none⟩)]) :: D)) : Awp P (.rangeFunc g ps asn bod) Q T H D := by
  intro B E a w rd n hk hS
  have hrd : rd = none := by
    rcases hk with h | h
    · exact h
    · cases h
  subst hrd
  have hf := ev_rel hS.tmps.at_ g hok
  rw [hg] at hf
  generalize hcv : a.eval g = u at hf
  cases hf with
  | func _ _ a' _ c' _ h1 h2 h3 h4 =>
    have ha' : a' = #[] := by
      apply Array.eq_empty_of_size_eq_zero
      simpa using h1.symm
    subst ha'
    have hE0 := hS.heap.base
    obtain ⟨l1, hl1⟩ : ∃ l : Loc, l = ⟨w.heap.size, 0, 0⟩ := ⟨_, rfl⟩
    obtain ⟨l2, hl2'⟩ : ∃ l : Loc, l = ⟨w.heap.size + 1, 0, 0⟩ := ⟨_, rfl⟩
    obtain ⟨w1, hw1⟩ : ∃ w1 : World, w1 = w.alloc (.deferred (some [])) := ⟨_, rfl⟩
    have hsz1 : w1.heap.size = w.heap.size + 1 := by rw [hw1]; simp
    have hp1 : HRel P B (E.add H.next l1) (H.push .df) w1 := by
      refine hS.heap.push l1 (by rw [hl1]) (by omega) (fun k hk => by rw [hw1]; exact Below.heap_alloc w _ k hk) ⟨l1, by simp [Env.add], by rw [hl1], by rw [hl1]; exact hE0, ?_⟩
      rw [hl1, hw1]
      exact World.alloc_heap_new w _
    have hle1 : E.le (E.add H.next l1) := Env.le_add hS.heap.newId
    have hle2 : (E.add H.next l1).le ((E.add H.next l1).add (H.next + 1) l2) := Env.le_add hp1.newId
    have hA : LRel ((E.add H.next l1).add (H.next + 1) l2) (.func (.yield (H.next + 1 + 1)) #[] #[] :: caps.toList) (#[.func (.yield (w.heap.size + 1)) #[] #[]] ++ c') := by
      have e1 : LRel ((E.add H.next l1).add (H.next + 1) l2) [.func (.yield (H.next + 1 + 1)) #[] #[]] #[.func (.yield (w.heap.size + 1)) #[] #[]] := .of_lt rfl fun i hi => by
        simp at hi; subst hi
        have := VRel.yld (E := (E.add H.next l1).add (H.next + 1) l2) (H.next + 1) l2 (by simp [Env.add])
        rw [hl2'] at this
        rw [hl2']
        exact this
      have e3 : LRel E caps.toList c' := by simpa [LRel] using (⟨h2, h4⟩ : ARel E caps c')
      exact e1.append (e3.mono (hle1.trans hle2))
    refine wpIn_rangeFunc fun fn _ => ?_
    obtain ⟨r0, hr0⟩ : ∃ r : Loop, r = { state := .ready, pending := none, fn, tmps := a.tmps, params := ps, assign := asn, body := bod, defers := w.heap.size } := ⟨_, rfl⟩
    obtain ⟨w2, hw2⟩ : ∃ w2 : World, w2 = w1.alloc (.loop r0) := ⟨_, rfl⟩
    have hp2 : HRel P B ((E.add H.next l1).add (H.next + 1) l2) ((H.push .df).push (.lp T (.rangeFunc g ps asn bod) false)) w2 := by
      refine hp1.push l2 (by rw [hl2', hsz1]) (by rw [hw2]; simp) (fun k hk => by rw [hw2]; exact Below.heap_alloc w1 _ k hk) ?_
      refine ⟨l2, r0, g, by simp [Env.add, Heap.push], by rw [hl2'], by rw [hl2']; show B ≤ w.heap.size + 1; omega, ?_, by rw [hr0]; rfl, by rw [hr0], by rw [hr0], ?_⟩
      · have := World.alloc_heap_new w1 (.loop r0)
        rw [hsz1] at this
        rw [hw2, hl2']
        exact this
      · rw [hr0]; exact ((hS.tmps.mono hle1).mono hle2).to_L
    have hbel : Below B w w2 := by
      rw [hw2, hw1]
      exact ((Below.refl B w).alloc hE0 _).alloc (by simp; omega) _
    have hen : (Instr.enterLoop fn a.tmps ps asn bod none).run P w = .ok (w.heap.size + 1, [{ target := .collected w.heap.size, args := #[] }]) w2 := by
      rw [hw2, hw1, hr0]
      exact run_enterLoop_outer fn a.tmps ps asn bod
    have hrs : (resolve a.eval (rangeCall g (w.heap.size + 1)) 0).run P w2 = .ok { target := .fn (.func gf) c', args := #[.func (.yield (w.heap.size + 1)) #[] #[]] } w2 := by
      have hcst : a.eval (.const (.func (.yield (w.heap.size + 1)) #[] #[])) = .func (.yield (w.heap.size + 1)) #[] #[] := rfl
      simp [resolve, hcv, Deferred.ofValue, hcst]
    have hiv : (invoke (.fn (.func gf) c') #[.func (.yield (w.heap.size + 1)) #[] #[]]).run P w2 = .ok (.enter gf (#[.func (.yield (w.heap.size + 1)) #[] #[]] ++ c')) w2 := by
      simp only [invoke]
      exact run_callFunc hcb _ w2
    refine ⟨w.heap.size + 1, _, w2, _, w2, gf, _, w2, hen, hrs, fun _ _ => trivial, hiv, fun h => (by cases h), callsIn_FR ((hdo B _ w2 _ hp2 hA).mono ?_)⟩
    rintro e w3 ⟨E3, v3, k1, k2, k3, k4, rfl⟩
    have hobj := k2.obj (H.next + 1)
    rw [hl2] at hobj
    obtain ⟨l, r, g', f1, f2, f3, f4, f5, f6, f7, f8⟩ := hobj
    have hEl : E3 (H.next + 1) = some l2 := k1 _ _ (by simp [Env.add])
    rw [hEl] at f1; cases f1
    have hb2 : l2.blk = w.heap.size + 1 := by rw [hl2']
    rw [hb2] at f4 f3
    refine ⟨r.pending, _, run_endLoop f4 (by rw [f5]; simp), ?_⟩
    rw [f6]
    have hH4 : HRel P B E3 (H2.put (H.next + 1) .dead) (w3.putObj (w.heap.size + 1) (.loop { r with state := .exhausted })) :=
      k2.update hEl (by rw [hl2]; rfl) (by simp) (fun k hk => World.putObj_heap_other (by rw [← hb2]; exact hk)) trivial
    have hle := (hle1.trans hle2).trans k1
    have hmark : LRel E3 [.pointer (some ⟨H.next, 0, none⟩)] (#[.pointer (some ⟨w.heap.size, 0, none⟩)] ++ #[]) := by
      refine .of_lt rfl fun i hi => ?_
      simp at hi; subst hi
      have := VRel.ptr (E := E3) H.next 0 l1 (hle2.trans k1 _ _ (by simp [Env.add]))
      rw [hl1] at this
      exact this
    rw [f6] at hH4
    exact ⟨E3, T, _, _, hQ, hle, ⟨hH4, hS.tmps.mono hle, .cons ⟨#[], #[.pointer (some ⟨w.heap.size, 0, none⟩)], rfl, hmark⟩ (hS.defs.mono hle)⟩, hbel.trans (k4.trans (below_putObj _ f3))⟩
end Go.Abs

namespace Go.Abs
open Go.RowKit (Below)

/-- The record of a loop is as it was. -/
def LpC (o : AObj) (T : List Value) (c : Code) (b : Bool) : Prop := o = .lp T c b

/-- One round, run in place. -/
def rndA (P : Program) (call : CallF) (OO : OpO) (m : Nat) (id : Nat) (vs : List Value) (H : Heap) : Option (Heap × Prop) :=
  match H.get id with
  | .lp T c false => (match c with
    | .rangeFunc _ ps asn bod => bif Nat.beq vs.length ps.size && noDef asn && noDef bod then
        (match ex3 P call OO m asn ⟨⟨setPs ps.toList vs T, H, []⟩, True⟩ with
        | some (.normal, s1) => (match s1.D with
          | [] => (match ex3 P call OO m bod ⟨⟨s1.T, s1.H.put id (.lp T c true), []⟩, s1.L⟩ with
            | some (.normal, s2) => (match s2.D with
              | [] => some (s2.H.put id (.lp T c false), LpC (s1.H.get id) T c false ∧ LpC (s2.H.get id) T c true ∧ s2.L)
              | _ => none)
            | _ => none)
          | _ => none)
        | _ => none) else none
    | _ => none)
  | _ => none

theorem rndA_sound {P : Program} (hm : P.follows .mixedOrders = true) {call : CallF} (hO : ∀ f args H v h, call f args H = some (v, h) → Does P f args H v (h.getD H)) {OO : OpO} (hOO : SoundO P OO) {m id : Nat} {vs : List Value} {H H' : Heap} {L : Prop}
    (h : rndA P call OO m id vs H = some (H', L)) (hL : L) : Round1 P id vs H H' := by
  unfold rndA at h
  split at h
  case h_2 => cases h
  rename_i T c hg
  split at h
  case h_2 => cases h
  rename_i g ps asn bod
  obtain ⟨hb, h⟩ := cond_opt h
  simp only [Bool.and_eq_true] at hb
  split at h
  case h_2 => cases h
  rename_i s1 h1
  split at h
  case h_2 => cases h
  rename_i hD1
  split at h
  case h_2 => cases h
  rename_i s2 h2
  split at h
  case h_2 => cases h
  rename_i hD2
  simp only [Option.some.injEq, Prod.mk.injEq] at h
  obtain ⟨rfl, rfl⟩ := h
  obtain ⟨hl1, hl2, hl3⟩ := hL
  obtain ⟨hs1, ha2⟩ := ex3_sound hm hO hOO m bod _ _ h2 hl3
  obtain ⟨_, ha1⟩ := ex3_sound hm hO hOO m asn _ _ h1 hs1
  refine ⟨T, g, ps, asn, bod, s1.T, s1.H, s2.H, hg, beqN hb.1.1, hb.1.2, hb.2, awp_mono ha1 ?_, hl1, awp_mono ha2 ?_, hl2, rfl⟩
  · rintro e T' H' D' ⟨rfl, rfl, rfl, rfl⟩
    exact ⟨rfl, rfl, rfl, hD1⟩
  · rintro e T' H' D' ⟨rfl, rfl, rfl, rfl⟩
    exact ⟨rfl, rfl, hD2⟩

/-- A call of yield whose round is run in place. -/
def yldO (P : Program) (call : CallF) (OO : OpO) (m : Nat) (d : Nat) : OpO := fun o ρ H => match o.dst with
  | some d' => bif Nat.beq d' d then (match o.op with
    | .call c => (match c.callee with
      | .value fo => (match ρ fo with
        | .func (.yield (id + 1)) a b => bif a.isEmpty && b.isEmpty then (match rndA P call OO m id (c.args.toList.map ρ) H with
          | some (H', L) => some (.eff (.bool true) H' L)
          | none => none) else none
        | _ => none)
      | _ => none)
    | _ => none) else none
  | none => none

theorem yldO_sound {P : Program} (hm : P.follows .mixedOrders = true) {call : CallF} (hO : ∀ f args H v h, call f args H = some (v, h) → Does P f args H v (h.getD H)) {OO : OpO} (hOO : SoundO P OO) {m d : Nat} : SoundO P (yldO P call OO m d) := by
  have key : ∀ o ρ H r, yldO P call OO m d o ρ H = some r → ∃ v H' c, r = .eff v H' c ∧ (c → ∀ D, SDoes P o ρ H D v H' D) := by
    intro o ρ H r h
    unfold yldO at h
    split at h
    case h_2 => cases h
    obtain ⟨_, h⟩ := cond_opt h
    split at h
    case h_2 => cases h
    rename_i c ho
    split at h
    case h_2 => cases h
    rename_i fo hcal
    split at h
    case h_2 => cases h
    rename_i id a b hv
    obtain ⟨hb, h⟩ := cond_opt h
    simp only [Bool.and_eq_true, Array.isEmpty_iff] at hb
    obtain ⟨rfl, rfl⟩ := hb
    split at h
    case h_2 => cases h
    rename_i H' L hr
    cases h
    exact ⟨_, _, _, rfl, fun hL D => SDoes.yield ho hcal D hv (rndA_sound hm hO hOO hr hL)⟩
  refine ⟨fun o ρ H v ob c h _ => ?_, fun o ρ H v c h _ => ?_, fun o ρ H v c h _ => ?_, fun o ρ H v c h _ => ?_, fun o ρ H v H' c h hc => ?_⟩
  · obtain ⟨_, _, _, h, _⟩ := key _ _ _ _ h; cases h
  · obtain ⟨_, _, _, h, _⟩ := key _ _ _ _ h; cases h
  · obtain ⟨_, _, _, h, _⟩ := key _ _ _ _ h; cases h
  · obtain ⟨_, _, _, h, _⟩ := key _ _ _ _ h; cases h
  · obtain ⟨_, _, _, h, k⟩ := key _ _ _ _ h; cases h; exact k hc

/-- The statement, where a few names are kept. -/
theorem awn_rangeFunc {P : Program} {n : Nat} {g : Operand} {ps : Array Tmp} {asn bod : Code} {Q : APost} {T : List Value} {H : Heap} {D : Defs} {gf : FuncId} {caps : Array Value} (hok : okOperand g = true) (hg : ev T g = .func (.func gf) #[] caps) (hcb : callable P gf = true)
    {v : Value} {H2 : Heap} (hdo : Does P gf (.func (.yield (H.next + 1 + 1)) #[] #[] :: caps.toList) ((H.push .df).push (.lp T (.rangeFunc g ps asn bod) false)) v H2)
    (hl2 : H2.get (H.next + 1) = .lp T (.rangeFunc g ps asn bod) false)
    (hQ : Q .normal T (H2.put (H.next + 1) .dead) ((markF, [.pointer (some ⟨H.next, 0, none⟩)]) :: D)) : Awn P n (.rangeFunc g ps asn bod) Q T H D :=
  awn_of (awp_rangeFunc hok hg hcb hdo hl2 hQ)
end Go.Abs

namespace Go.Abs
open Go.RowKit (Below)

/-- An oracle that gives effects alone. -/
theorem SoundO.of_eff {P : Program} {OO : OpO} (key : ∀ o ρ H r, OO o ρ H = some r → ∃ v H' c, r = .eff v H' c ∧ (c → ∀ D, SDoes P o ρ H D v H' D)) : SoundO P OO := by
  refine ⟨fun o ρ H v ob c h _ => ?_, fun o ρ H v c h _ => ?_, fun o ρ H v c h _ => ?_, fun o ρ H v c h _ => ?_, fun o ρ H v H' c h hc => ?_⟩
  · obtain ⟨_, _, _, h, _⟩ := key _ _ _ _ h; cases h
  · obtain ⟨_, _, _, h, _⟩ := key _ _ _ _ h; cases h
  · obtain ⟨_, _, _, h, _⟩ := key _ _ _ _ h; cases h
  · obtain ⟨_, _, _, h, _⟩ := key _ _ _ _ h; cases h
  · obtain ⟨_, _, _, h, k⟩ := key _ _ _ _ h; cases h; exact k hc

/-- A store of a whole element, wherever it lies. -/
def StC (vs : List Value) (n off : Nat) (cs : List Value) : Prop := vs.length = n ∧ off + n ≤ cs.length ∧ vs.all one = true
def stO (P : Program) (p : Nat) : OpO := fun o ρ H => match o.op with
  | .store t (.tmp q) x => bif Nat.beq q p then (match ρ (.tmp q) with
    | .pointer (some ⟨id, off, none⟩) => (match (H.get id).own, sizeT P t with
      | some cs, some n => some (.eff undef (H.put id ((H.get id).setOwn (splice cs off (ρ x).cells.toList))) (StC (ρ x).cells.toList n off cs))
      | _, _ => none)
    | _ => none) else none
  | _ => none
theorem stO_sound {P : Program} {p : Nat} : SoundO P (stO P p) := .of_eff fun o ρ H r h => by
  unfold stO at h
  split at h
  case h_2 => cases h
  rename_i t q x ho
  obtain ⟨_, h⟩ := cond_opt h
  split at h
  case h_2 => cases h
  rename_i id off hv
  split at h
  case h_2 => cases h
  rename_i cs n hown hs
  cases h
  refine ⟨_, _, _, rfl, fun ⟨c1, c2, c3⟩ D => .of_ev D ?_⟩
  obtain ⟨dst, op, type, pos, after, guard⟩ := o
  simp only at ho
  subst ho
  have b1 : Nat.beq (ρ x).cells.size n = true := by
    rw [← c1]
    simp
  have b2 : Nat.ble (off + n) cs.length = true := by rw [Nat.ble_eq]; exact c2
  simp only [evW, evE, hv, hown, hs, b1, b2, c3, Bool.and_self, cond_true]

/-- make with a length and a capacity that are not known. -/
def MkC (size by_ : Nat) (z : Array Value) (l c : Int) (cs : List Value) : Prop := 0 ≤ l ∧ l ≤ c ∧ 0 < c ∧ c ≤ 1000000000 ∧ (by_ : Int) * c ≤ 281474976710656 ∧ z.size = size ∧ 0 < size ∧ cs = (zerosOf z (l.toNat * size)).toList
def mkG (P : Program) (d : Nat) (cs : List Value) : OpO := fun o ρ H => match o.dst with
  | some d' => bif Nat.beq d' d then (match o.op with
    | .makeSlice t l c => (match P.underlying t, ρ l, ρ c with
      | some (.slice e), .int _ l, .int _ c => (match sizeT P e, bytesT P e, zeroT P e with
        | some size, some by_, some z => some (.eff (.slice (some ⟨H.next, 0, none⟩) l.toNat capG) (H.push (.grow cs e)) (MkC size by_ z.cells l c cs))
        | _, _, _ => none)
      | _, _, _ => none)
    | _ => none) else none
  | none => none
theorem mkG_sound {P : Program} {d : Nat} {cs : List Value} : SoundO P (mkG P d cs) := .of_eff fun o ρ H r h => by
  unfold mkG at h
  split at h
  case h_2 => cases h
  obtain ⟨_, h⟩ := cond_opt h
  split at h
  case h_2 => cases h
  rename_i t l c ho
  split at h
  case h_2 => cases h
  rename_i e k1 l0 k2 c0 hu hvl hvc
  split at h
  case h_2 => cases h
  rename_i size by_ z hs hby hz
  cases h
  refine ⟨_, _, _, rfl, fun ⟨g1, g2, g3, g4, g5, g6, g7, g8⟩ D => ?_⟩
  intro B E a w rd n hk hH hD hr K Q hK
  have hl := hr l (by simp [ho, Op.operands])
  have hc := hr c (by simp [ho, Op.operands])
  rw [hvl] at hl
  rw [hvc] at hc
  generalize hcl : a.eval l = ul at hl
  generalize hcc : a.eval c = uc at hc
  cases hl
  cases hc
  obtain ⟨hzc, hzr, i, hi, hiz⟩ := zeroT_spec hz
  have hiby : i.bytes = by_ := by simp only [bytesT, hi, Option.map_some, Option.some.injEq] at hby; exact hby
  have hpos : 0 < z.cells.size := by omega
  have wl : IntKind.i64.wrap l0 = l0 := by simp [IntKind.wrap, IntKind.bits, IntKind.signed]; omega
  have wc : IntKind.i64.wrap c0 = c0 := by simp [IntKind.wrap, IntKind.bits, IntKind.signed]; omega
  have n1 : ¬ c0 < 0 := by omega
  have n2 : ¬ l0 < 0 := by omega
  have n3 : ¬ c0 < l0 := by omega
  have n4 : ¬ 281474976710656 < (i.bytes : Int) * c0 := by rw [hiby]; omega
  have hrun : (execOp a.eval o).run P w = .ok (.value (.slice (some ⟨w.heap.size, 0, none⟩) l0.toNat c0.toNat)) (w.alloc (.cells (zerosOf z.cells (c0.toNat * size)) e)) := by
    simp [execOp, ho, hcl, hcc, Instr.makeSlice, run_underlying hu, asInt, asIntOf, typeInfo, hi, wl, wc, n1, n2, n3, n4, run_sizeOf hs, hzr, newRow, zerosOf]
    intro hz0
    exact absurd hz0 (Nat.ne_of_gt (Nat.mul_pos (by omega) g7))
  refine wpIn_FR hk hrun ?_
  have hle := Env.le_add (l := ⟨w.heap.size, 0, c0.toNat⟩) hH.newId
  have hsn := slice_new E H.next w.heap.size l0.toNat capG c0.toNat (by rw [relC_capG]; show l0.toNat ≤ c0.toNat; omega)
  rw [relC_capG] at hsn
  have hcz : P.cellsOf e = size := by
    simp only [sizeT, Option.map_eq_some_iff] at hs
    obtain ⟨j, hj, rfl⟩ := hs
    simp [Program.cellsOf, hj]
  have hlen : (zerosOf z.cells (l0.toNat * size)).toList.length = l0.toNat * size := by simp [zerosOf]
  have hmul : l0.toNat * size ≤ c0.toNat * size := Nat.mul_le_mul_right _ (by omega)
  refine hK (E.add H.next ⟨w.heap.size, 0, c0.toNat⟩) _ _ a.defers hle (hH.push ⟨w.heap.size, 0, c0.toNat⟩ rfl (by simp) (fun k hk => Below.heap_alloc w _ k hk) ?_) hsn ((Below.refl B w).alloc hH.base _) (hD.mono hle)
  refine ⟨⟨w.heap.size, 0, c0.toNat⟩, zerosOf z.cells (c0.toNat * size), by simp [Env.add], rfl, hH.base, heap_alloc_new w _, ?_, ?_, ?_, fun q hq => ?_⟩
  · show c0.toNat ≤ maxLen
    unfold maxLen
    omega
  · rw [hcz]; simp [zerosOf]
  · rw [g8, hlen]; simp [zerosOf]; exact hmul
  · rw [g8, hlen] at hq
    rw [g8]
    have := (zeros_rel (E := E.add H.next ⟨w.heap.size, 0, c0.toNat⟩) hzc (l0.toNat * size) (.inr hpos)).at_ q
    have e1 : (zerosOf z.cells (l0.toNat * size)).toList.getD q undef = (zerosOf z.cells (l0.toNat * size)).getD q undef := by simp [Array.getD_eq_getD_getElem?, List.getD_eq_getElem?_getD]
    have e2 : (zerosOf z.cells (c0.toNat * size)).getD q undef = (zerosOf z.cells (l0.toNat * size)).getD q undef := by
      simp [zerosOf, Array.getD, hq, show q < c0.toNat * size by omega]
    rw [e1, e2]
    exact this
end Go.Abs

namespace Go.Abs
open Go.RowKit (Below)

/-- An own block gets a new name with another capacity; the old one dies. -/
theorem HRel.recap {P : Program} {B : Nat} {E : Env} {H : Heap} {w : World} {o : AObj} {id : Nat} {l l2 : Loc} (h : HRel P B E H w) (hl : E id = some l) (hm : (H.get id).mut = true) (hb2 : l2.blk = l.blk)
    (ho : OR P B (E.add H.next l2) w H.next o) : HRel P B (E.add H.next l2) ((H.put id .dead).push o) w := by
  obtain ⟨l0, hl0, hB, hlt⟩ := (h.obj id).lt hm
  rw [hl] at hl0; cases hl0
  have hle := Env.le_add (l := l2) h.newId
  have hid : id ≠ H.next := fun e => by have := h.dom _ _ hl; omega
  have hn : (H.put id .dead).next = H.next := rfl
  have hg : ∀ i, ((H.put id .dead).push o).get i = if H.next = i then o else if id = i then .dead else H.get i := fun i => by rw [Heap.get_push, hn, Heap.get_put]
  have key : ∀ i li, (E.add H.next l2) i = some li → (((H.put id .dead).push o).get i).mut = true → i ≠ H.next → li.blk ≠ l.blk ∧ E i = some li ∧ (H.get i).mut = true := by
    intro i li hi mi hne
    rw [hg, if_neg (fun e => hne e.symm)] at mi
    simp only [Env.add, if_neg hne] at hi
    split at mi
    · cases mi
    · rename_i hne2
      exact ⟨fun hb => hne2 (h.inj i id li l hi hl mi hm hb).symm, hi, mi⟩
  refine ⟨h.base, fun i l' hl' => ?_, fun i => ?_, fun i j li lj hi hj mi mj hb => ?_⟩
  · show i < H.next + 1
    unfold Env.add at hl'
    split at hl'
    · rename_i e; omega
    · exact Nat.lt_succ_of_lt (h.dom _ _ hl')
  · rw [hg]
    split
    · rename_i e; subst e; exact ho
    · split
      · trivial
      · exact (h.obj i).congr hle (fun _ _ => rfl)
  · by_cases e1 : i = H.next <;> by_cases e2 : j = H.next
    · rw [e1, e2]
    · exfalso
      have hj' := (key j lj hj mj e2).1
      subst e1
      simp only [Env.add, if_true, Option.some.injEq] at hi
      subst hi
      exact hj' (hb.symm.trans hb2)
    · exfalso
      have hi' := (key i li hi mi e1).1
      subst e2
      simp only [Env.add, if_true, Option.some.injEq] at hj
      subst hj
      exact hi' (hb.trans hb2)
    · obtain ⟨_, h1, m1⟩ := key i li hi mi e1
      obtain ⟨_, h2, m2⟩ := key j lj hj mj e2
      exact h.inj i j li lj h1 h2 m1 m2 hb

/-- A row that is full may grow. -/
theorem nrm_grow {P : Program} {n m : Nat} {k : List (Nat × Value)} {X : Nat → Value} {H : Heap} {D : Defs} {i q t : Nat} {cs : List Value} {e : TypeId} (hg : H.get i = .cells cs e) (hlen : cs.length = q * P.cellsOf e) (hq : q ≤ 1000000000) :
    Nrm P n (mkT m ((t, .slice (some ⟨i, 0, none⟩) q q) :: k) X) H D (mkT m ((t, .slice (some ⟨H.next, 0, none⟩) q capG) :: k) X) ((H.put i .dead).push (.grow cs e)) D := by
  intro B E a w hS
  have hobj := hS.heap.obj i
  rw [hg] at hobj
  obtain ⟨l, cs', h1, h2, h3, h4, h5⟩ := hobj
  have hle := Env.le_add (l := ⟨l.blk, 0, q⟩) hS.heap.newId
  have hcs : cs'.size = q * P.cellsOf e := by have := h5.size; simp only [List.size_toArray] at this; omega
  have hcap : q < capG := by unfold capG; omega
  refine ⟨E.add H.next ⟨l.blk, 0, q⟩, .of hle, ?_, ⟨by have := hS.tmps.size; simpa [mkT] using this, fun x => ?_⟩, hS.defs.mono hle⟩
  · refine hS.heap.recap h1 (by rw [hg]; rfl) rfl ⟨⟨l.blk, 0, q⟩, cs', by simp [Env.add], rfl, h3, h4, ?_, hcs, by omega, fun j hj => ?_⟩
    · show q ≤ maxLen
      unfold maxLen
      omega
    · have := (h5.at_ j).mono hle
      simpa [Array.getD_eq_getD_getElem?, List.getD_eq_getElem?_getD] using this
  · have hx := hS.tmps.at_ x
    by_cases hm : x < m
    · rw [mkT_get hm] at hx ⊢
      simp only [pickT] at hx ⊢
      cases hb : Nat.beq t x with
      | true =>
        rw [hb] at hx
        simp only [cond_true] at hx ⊢
        generalize a.tmps.getD x undef = u at hx
        cases hx with
        | slice _ _ _ _ l' hl' hn' =>
          rw [h1] at hl'; cases hl'
          rw [relC_lt hcap]
          have := VRel.slice (E := E.add H.next ⟨l.blk, 0, q⟩) H.next 0 q capG ⟨l.blk, 0, q⟩ (by simp [Env.add]) (by rw [relC_capG]; exact Nat.le_refl _)
          rw [relC_capG] at this
          rw [h2]
          exact this
      | false =>
        rw [hb] at hx
        exact hx.mono hle
    · have e1 : ∀ (kk : List (Nat × Value)), (mkT m kk X).getD x undef = undef := fun kk => by simp [mkT, List.getD_eq_getElem?_getD, hm]
      have e2 : a.tmps.getD x undef = undef := by
        have := hS.tmps.size
        simp [mkT] at this
        simp [Array.getD, show ¬ x < a.tmps.size by omega]
      rw [e1, e2]; exact .undef _
end Go.Abs

