/- BackupKeeps of law 31: Keep and Expire of the program return the lists of the specification, for all days, numbers of days and today; no condition. -/
import Derived.Test.YtafcagkhojhbbaaGreatKAa
import Derived.OrdersIn
import Derived.RangeFuncRecord
import Derived.LoopN
import Derived.LoopNIn
import Derived.Scope
set_option linter.unusedSimpArgs false
set_option linter.unusedVariables false
namespace Go.Abs
open Go.RowKit (Below)

abbrev Defs := List (FuncId × List Value)

/-- The mark of a range over a function among the deferred calls. -/
def markF : FuncId := 1000000007
def blkOf (a : Array Value) : Nat := match (a[0]? : Option Value) with
  | some (.pointer (some ad)) => ad.block
  | _ => 0
def mkD (f : FuncId) (c' a' : Array Value) : Deferred := bif Nat.beq f markF then { target := .collected (blkOf (a' ++ c')), args := #[] } else { target := .fn (.func f) c', args := a' }
theorem mkD_fn {f : FuncId} (h : Nat.beq f markF = false) (c' a' : Array Value) : mkD f c' a' = { target := .fn (.func f) c', args := a' } := by simp [mkD, h]

def DRel (E : Env) (d : FuncId × List Value) (d' : Deferred) : Prop := ∃ c' a', d' = mkD d.1 c' a' ∧ LRel E d.2 (a' ++ c')

def DsRel (E : Env) (D : Defs) (ds : List Deferred) : Prop := F2 (DRel E) D ds

theorem DsRel.mono {E E' : Env} (h : E.le E') {D : Defs} {ds : List Deferred} (r : DsRel E D ds) : DsRel E' D ds := by
  induction r with
  | nil => exact .nil
  | cons hd _ ih =>
    obtain ⟨c', a', h1, h2⟩ := hd
    exact .cons ⟨c', a', h1, h2.mono h⟩ ih

/-- A function called with abstract values, from an abstract heap: it returns the value and leaves the heap. -/
def Does (P : Program) (f : FuncId) (args : List Value) (H : Heap) (v : Value) (H' : Heap) : Prop :=
  ∀ (B : Nat) (E : Env) (w : World) (args' : Array Value), HRel P B E H w → LRel E args args' →
    Calls P f args' w fun e w' => ∃ E' v', E.le E' ∧ HRel P B E' H' w' ∧ VRel E' v v' ∧ Below B w w' ∧ e = .returned v'

def Rels (E : Env) (ρ : Operand → Value) (a : Act) (o : Oper) : Prop := ∀ x ∈ o.op.operands, VRel E (ρ x) (a.eval x)

/-- The wide fence, in a round or not. -/
def FR (rd : Option Nat) : Fence := { Fence.wide with round := rd }
def isDefer : Op → Bool
  | .defer _ => true
  | _ => false
/-- What may run in a round. -/
def OkO (rd : Option Nat) (o : Oper) : Prop := rd = none ∨ isDefer o.op = false

theorem semAt_ok {rd : Option Nat} {o : Oper} (h : OkO rd o) (ρ : Operand → Value) : o.semAt rd ρ = execOp ρ o := by
  rcases h with rfl | h
  · rfl
  · exact Oper.semAt_eq rd ρ o (fun c hc => by rw [hc] at h; cases h)

theorem callsIn_FR {rd : Option Nat} {n : Nat} {P : Program} {f : FuncId} {args : Array Value} {w : World} {R : Ending → World → Prop} (h : Calls P f args w R) : CallsIn (FR rd) n P f args w R :=
  (callsIn_wide (n := n)).2 h

/-- An operation of which the run is known. -/
theorem wpIn_FR {P : Program} {o : Oper} {a : Act} {w : World} {K : Act → World → Prop} {Q : Exit → Act → World → Prop} {rd : Option Nat} {n : Nat} (hk : OkO rd o) {r : Result Next} (h : (execOp a.eval o).run P w = r) (hu : o.uponIn (FR rd) n P a K Q r) : o.wpIn (FR rd) n P a w K Q :=
  ⟨fun _ _ => trivial, by show o.uponIn (FR rd) n P a K Q ((o.semAt rd a.eval).run P w); rw [semAt_ok hk, h]; exact hu⟩

/-- One operation, semantically. -/
def SDoes (P : Program) (o : Oper) (ρ : Operand → Value) (H : Heap) (D : Defs) (v : Value) (H' : Heap) (D' : Defs) : Prop :=
  ∀ (B : Nat) (E : Env) (a : Act) (w : World) (rd : Option Nat) (n : Nat), OkO rd o → HRel P B E H w → DsRel E D a.defers → Rels E ρ a o →
    ∀ (K : Act → World → Prop) (Q : Exit → Act → World → Prop),
      (∀ E' v' w' ds', E.le E' → HRel P B E' H' w' → VRel E' v v' → Below B w w' → DsRel E' D' ds' → K ({ a with defers := ds' }.put o.dst v') w') → o.wpIn (FR rd) n P a w K Q

/-- One that leaves the heap and the world alone. -/
def SQuiet (P : Program) (o : Oper) (ρ : Operand → Value) (H : Heap) (v : Value) : Prop :=
  ∀ (B : Nat) (E : Env) (a : Act) (w : World) (rd : Option Nat) (n : Nat), OkO rd o → HRel P B E H w → Rels E ρ a o →
    ∀ (K : Act → World → Prop) (Q : Exit → Act → World → Prop), (∀ v' w', VRel E v v' → Below w.heap.size w w' → K (a.put o.dst v') w') → o.wpIn (FR rd) n P a w K Q

theorem SQuiet.of_run {P : Program} {o : Oper} {ρ : Operand → Value} {H : Heap} {v : Value} (h : ∀ (B : Nat) (E : Env) (a : Act) (w : World), HRel P B E H w → Rels E ρ a o → ∃ v' w', (execOp a.eval o).run P w = .ok (.value v') w' ∧ VRel E v v' ∧ Below w.heap.size w w') : SQuiet P o ρ H v := by
  intro B E a w rd n hk hH hr K Q hK
  obtain ⟨v', w', h1, h2, h3⟩ := h B E a w hH hr
  exact wpIn_FR hk h1 (hK v' w' h2 h3)

theorem SQuiet.of_Q {P : Program} {o : Oper} {ρ : Operand → Value} {H : Heap} {v : Value} (h : ∀ (B : Nat) (E : Env) (a : Act) (w : World), HRel P B E H w → Rels E ρ a o → QOk P E a o w v) : SQuiet P o ρ H v := by
  refine .of_run ?_
  intro B E a w hH hr
  obtain ⟨v', h1, h2⟩ := h B E a w hH hr
  exact ⟨v', w, h1, h2, .refl _ w⟩

theorem SQuiet.of_ev {P : Program} {o : Oper} {ρ : Operand → Value} {H : Heap} {v : Value} (h : evR P ρ H o = some v) : SQuiet P o ρ H v := .of_Q fun _ _ _ _ hH hr => evR_sound h hH hr

/-- make([]T, 0): a slice without cells. -/
def emptyA (P : Program) (ρ : Operand → Value) (o : Oper) : Option Value :=
  match o.op with
  | .makeSlice t l c => match P.underlying t, ρ l, ρ c with
    | some (.slice e), .int _ l, .int _ c => bif decide (l = 0) && decide (c = 0) then (match P.info? e with
      | some _ => some (.slice (some ⟨0, 0, some 0⟩) 0 0)
      | none => none) else none
    | _, _, _ => none
  | _ => none

theorem emptyA_sound {P : Program} {ρ : Operand → Value} {o : Oper} {v : Value} (h : emptyA P ρ o = some v) (H : Heap) : SQuiet P o ρ H v := by
  refine .of_run ?_
  intro B E a w hH hr
  unfold emptyA at h
  split at h
  case h_2 => cases h
  rename_i t l c ho
  have hl := hr l (by simp [ho, Op.operands])
  have hc := hr c (by simp [ho, Op.operands])
  split at h
  case h_2 => cases h
  rename_i e k1 l0 k2 c0 hu hvl hvc
  rw [hvl] at hl
  rw [hvc] at hc
  generalize hcl : a.eval l = ul at hl
  generalize hcc : a.eval c = uc at hc
  cases hl
  cases hc
  replace h := cond_opt h
  have hb := h.1
  replace h := h.2
  simp only [Bool.and_eq_true, decide_eq_true_eq] at hb
  obtain ⟨rfl, rfl⟩ := hb
  split at h
  case h_2 => cases h
  rename_i i hi
  simp only [Option.some.injEq] at h; subst h
  refine ⟨.slice (some ⟨w.heap.size, 0, none⟩) 0 0, w.alloc (.cells #[] e), ?_, .anon _, (Below.refl _ w).alloc (Nat.le_refl _) _⟩
  have hs : sizeT P e = some i.size := by simp [sizeT, hi]
  have w0 : IntKind.i64.wrap 0 = 0 := by decide
  simp [execOp, ho, hcl, hcc, Instr.makeSlice, run_underlying hu, asInt, asIntOf, typeInfo, hi, w0, run_sizeOf hs, newRow]
  rw [show Array.range 0 = #[] from rfl]; simp

theorem SDoes.of_quiet {P : Program} {o : Oper} {ρ : Operand → Value} {H : Heap} {v : Value} (D : Defs) (h : SQuiet P o ρ H v) : SDoes P o ρ H D v H D := by
  intro B E a w rd n hk hH hD hr K Q hK
  exact h B E a w rd n hk hH hr K Q fun v' w' h2 h3 => hK E v' w' a.defers (.refl E) (hH.kept h3) h2 (h3.mono hH.base) hD

theorem SDoes.of_ev {P : Program} {o : Oper} {ρ : Operand → Value} {H H' : Heap} {v : Value} (D : Defs) (h : evW P ρ H o = some (v, H')) : SDoes P o ρ H D v H' D := by
  intro B E a w rd n hk hH hD hr K Q hK
  obtain ⟨E', nx, w', h1, h2, h3, h4, h5⟩ := evW_sound h hH hr
  refine wpIn_FR hk h1 ?_
  rcases h2 with ⟨v', rfl, hv⟩ | ⟨rfl, rfl⟩
  · exact hK E' v' w' a.defers h3 h4 hv h5 (hD.mono h3)
  · exact hK E' undef w' a.defers h3 h4 (.undef E') h5 (hD.mono h3)

def callable (P : Program) (f : FuncId) : Bool :=
  match P.funcs[f]? with
  | some fn => fn.name != "runtime.NumGoroutine" && fn.body.isSome
  | none => false

theorem run_callFunc {P : Program} {f : FuncId} (h : callable P f = true) (args : Array Value) (w : World) : (callFunc f args).run P w = .ok (.enter f args) w := by
  unfold callable at h
  cases hf : P.funcs[f]? with
  | none => simp [hf] at h
  | some fn =>
    simp only [hf, Bool.and_eq_true, bne_iff_ne, ne_eq] at h
    have hb : fn.body ≠ none := by intro hn; rw [hn] at h; simp at h
    simp [callFunc, hf, h.1, hb]

/-- The method of a pointer. -/
def methodT (P : Program) (t : TypeId) (name : String) : Option FuncId :=
  match P.info? t, P.underlying t with
  | some i, some (.pointer _) => match i.methods.find? (·.name == name) with
    | some m => bif m.path.isEmpty then (match m.func with
      | some (f, true) => some f
      | _ => none) else none
    | none => none
  | _, _ => none

theorem run_method {P : Program} {t : TypeId} {name : String} {f : FuncId} (h : methodT P t name = some f) (v : Value) (w : World) (n : Nat) : (method (n + 1) t v name).run P w = .ok (f, v) w := by
  unfold methodT at h
  split at h
  case h_2 => cases h
  rename_i i e hi hu
  split at h
  case h_2 => cases h
  rename_i m hm
  replace h := cond_opt h
  have hp : m.path = #[] := by simpa using h.1
  replace h := h.2
  split at h
  case h_2 => cases h
  rename_i f' hf
  simp only [Option.some.injEq] at h; subst h
  simp [method, typeInfo, hi, hm, hp, follow, hf, receiverAt, run_underlying hu, Place.get]

theorem run_nilAhead {P : Program} {t : TypeId} {name : String} {f : FuncId} (h : methodT P t name = some f) (v : Value) (w : World) (n : Nat) : (nilAhead (n + 1) t v name).run P w = .ok (some false) w := by
  unfold methodT at h
  split at h
  case h_2 => cases h
  rename_i i e hi hu
  split at h
  case h_2 => cases h
  rename_i m hm
  replace h := cond_opt h
  have hp : m.path = #[] := by simpa using h.1
  replace h := h.2
  split at h
  case h_2 => cases h
  rename_i f' hf
  simp [nilAhead, typeInfo, hi, hm, hp, followBlind, hf]

/-- Which function a call enters, and with what. -/
def calleeA (P : Program) (ρ : Operand → Value) (c : Call) : Option (FuncId × List Value) :=
  match c.callee with
  | .value f => match ρ f with
    | .func (.func g) first cap => bif callable P g then some (g, first.toList ++ (c.args.toList.map ρ) ++ cap.toList) else none
    | _ => none
  | .invoke r name => match ρ r with
    | .iface t (.pointer (some ad)) => match methodT P t name with
      | some g => bif callable P g then some (g, .pointer (some ad) :: c.args.toList.map ρ) else none
      | none => none
    | _ => none
  | .builtin _ => none

/-- The callee of a call and what it is handed. -/
theorem enters {P : Program} {o : Oper} {c : Call} (ho : o.op = .call c) {ρ : Operand → Value} {f : FuncId} {args : List Value} (hc : calleeA P ρ c = some (f, args)) {E : Env} {a : Act} {w : World} (hr : Rels E ρ a o) :
    ∃ args', (execOp a.eval o).run P w = .ok (.enter f args') w ∧ LRel E args args' := by
  unfold calleeA at hc
  have hargs : ARel E (c.args.map ρ) (c.args.map a.eval) := ARel.map fun x hx => hr x (by simp [ho, Op.operands, Call.operands, hx])
  split at hc
  · rename_i fo hcal
    split at hc
    case h_2 => cases hc
    rename_i g first cap hv
    obtain ⟨hcb, hv2⟩ := cond_some hc
    simp only [Prod.mk.injEq] at hv2
    obtain ⟨rfl, rfl⟩ := hv2
    have hf := hr fo (by simp [ho, Op.operands, Call.operands, hcal])
    rw [hv] at hf
    generalize hcv : a.eval fo = u at hf
    cases hf with
    | func _ _ a' _ c' _ h1 h2 h3 h4 =>
      refine ⟨a' ++ c.args.map a.eval ++ c', ?_, ?_⟩
      · simp [execOp, ho, resolve, hcal, hcv, Deferred.ofValue, invoke, run_callFunc hcb]
      · have e1 : LRel E first.toList a' := by simpa [LRel] using (⟨h1, h3⟩ : ARel E first a')
        have e2 : LRel E (c.args.toList.map ρ) (c.args.map a.eval) := by rw [LRel, ← Array.toList_map, Array.toArray_toList]; exact hargs
        have e3 : LRel E cap.toList c' := by simpa [LRel] using (⟨h2, h4⟩ : ARel E cap c')
        exact (e1.append e2).append e3
  · rename_i r name hcal
    split at hc
    case h_2 => cases hc
    rename_i t ad hv
    split at hc
    case h_2 => cases hc
    rename_i g hg
    obtain ⟨hcb, hv2⟩ := cond_some hc
    simp only [Prod.mk.injEq] at hv2
    obtain ⟨rfl, rfl⟩ := hv2
    have hf := hr r (by simp [ho, Op.operands, Call.operands, hcal])
    rw [hv] at hf
    generalize hcv : a.eval r = u at hf
    cases hf with
    | iface _ _ p' hp =>
      refine ⟨#[p'] ++ c.args.map a.eval, ?_, ?_⟩
      · have hm := run_method hg p' w (P.types.size + 99)
        have hn : P.types.size + Made.depth = P.types.size + 99 + 1 := rfl
        simp only [execOp, ho, resolve, hcal, Sem.run_bind, Sem.run_pure, Result.andThen_ok, invoke, hcv]
        have h0 : (#[Value.iface t p'] ++ Array.map a.eval c.args)[0]? = some (.iface t p') := by rw [Array.getElem?_append_left (by simp)]; rfl
        have h1 : (#[Value.iface t p'] ++ Array.map a.eval c.args).extract 1 (#[Value.iface t p'] ++ Array.map a.eval c.args).size = Array.map a.eval c.args := by
          apply Array.ext'
          simp
          exact List.take_of_length_le (by simp)
        rw [h0]
        simp only [h1, callMethod, Sem.run_bind, run_program, Result.andThen_ok, hn, hm, run_callFunc hcb]
      · have e2 : LRel E (c.args.toList.map ρ) (c.args.map a.eval) := by rw [LRel, ← Array.toList_map, Array.toArray_toList]; exact hargs
        have e1 : LRel E [.pointer (some ad)] #[p'] := .of_lt rfl fun i hi => by simp at hi; subst hi; simpa using hp
        exact e1.append e2
  · cases hc

theorem SDoes.call {P : Program} {o : Oper} {c : Call} (ho : o.op = .call c) {ρ : Operand → Value} {H H' : Heap} {v : Value} (D : Defs) {f : FuncId} {args : List Value} (hc : calleeA P ρ c = some (f, args)) (h : Does P f args H v H') : SDoes P o ρ H D v H' D := by
  intro B E a w rd n hk hH hD hr K Q hK
  obtain ⟨args', h1, h2⟩ := enters (P := P) (w := w) ho hc hr
  refine wpIn_FR hk h1 ⟨fun h0 => (by cases h0), callsIn_FR ((h B E w args' hH h2).mono ?_)⟩
  rintro e w' ⟨E', v', g1, g2, g3, g4, rfl⟩
  exact hK E' v' w' a.defers g1 g2 g3 g4 (hD.mono g1)

theorem SDoes.defer {P : Program} {o : Oper} {c : Call} (ho : o.op = .defer c) {ρ : Operand → Value} (H : Heap) (D : Defs) {fo : Operand} (hcal : c.callee = .value fo) {g : FuncId} {first cap : Array Value} (hv : ρ fo = .func (.func g) first cap) (hg : Nat.beq g markF = false) :
    SDoes P o ρ H D undef H ((g, first.toList ++ (c.args.toList.map ρ) ++ cap.toList) :: D) := by
  intro B E a w rd n hk hH hD hr K Q hK
  have hargs : ARel E (c.args.map ρ) (c.args.map a.eval) := ARel.map fun x hx => hr x (by simp [ho, Op.operands, Call.operands, hx])
  have hf := hr fo (by simp [ho, Op.operands, Call.operands, hcal])
  rw [hv] at hf
  generalize hcv : a.eval fo = u at hf
  cases hf with
  | func _ _ a' _ c' _ h1 h2 h3 h4 =>
    have hrun : (execOp a.eval o).run P w = .ok (.defer { target := .fn (.func g) c', args := a' ++ c.args.map a.eval }) w := by
      simp [execOp, ho, resolve, hcal, hcv, Deferred.ofValue]
    refine wpIn_FR hk hrun ?_
    refine hK E undef w _ (.refl E) hH (.undef E) (.refl B w) (.cons ⟨c', a' ++ c.args.map a.eval, (mkD_fn hg _ _).symm, ?_⟩ hD)
    have e1 : LRel E first.toList a' := by simpa [LRel] using (⟨h1, h3⟩ : ARel E first a')
    have e2 : LRel E (c.args.toList.map ρ) (c.args.map a.eval) := by rw [LRel, ← Array.toList_map, Array.toArray_toList]; exact hargs
    have e3 : LRel E cap.toList c' := by simpa [LRel] using (⟨h2, h4⟩ : ARel E cap c')
    exact (e1.append e2).append e3

/-- The nil check of a method value of a pointer. -/
theorem SQuiet.nilMethod {P : Program} {o : Oper} {x : Operand} (ho : o.op = .nilCheck x) {ρ : Operand → Value} (H : Heap) {name : String} {t : TypeId} {ad : Addr} {cap : Array Value} (hv : ρ x = .func (.method name) #[.iface t (.pointer (some ad))] cap)
    {g : FuncId} (hg : methodT P t name = some g) : SQuiet P o ρ H (ρ x) := by
  refine .of_Q ?_
  intro B E a w hH hr
  have hx := hr x (by simp [ho, Op.operands])
  rw [hv] at hx ⊢
  generalize hcv : a.eval x = u at hx
  cases hx with
  | func _ _ a' _ c' hf h1 h2 h3 h4 =>
    have hi := h3 0
    simp only [Array.getD] at hi
    have hs : a'.size = 1 := by simpa using h1.symm
    simp [hs] at hi
    generalize ha0 : a'[0] = q at hi
    cases hi with
    | iface _ _ p' hp =>
      have he : a' = #[.iface t p'] := by
        apply Array.ext (by simpa using hs)
        intro i h1 h2
        simp at h2
        subst h2
        simpa using ha0
      subst he
      have hna := run_nilAhead hg p' w (P.types.size + 99)
      have hn : P.types.size + Made.depth = P.types.size + 99 + 1 := rfl
      refine ⟨_, ?_, .func _ _ _ _ c' hf h1 h2 h3 h4⟩
      simp [execOp, ho, hcv, hn, hna]
end Go.Abs

namespace Go.Abs
open Go.RowKit (Below)

def putA (T : List Value) (dst : Option Tmp) (v : Value) : List Value :=
  match dst with
  | some d => T.set d v
  | none => T

structure TRel (E : Env) (T : List Value) (tmps : Array Value) : Prop where
  size : tmps.size = T.length
  at_ : ∀ t, VRel E (T.getD t undef) (tmps.getD t undef)

theorem TRel.mono {E E' : Env} (h : E.le E') {T : List Value} {tmps : Array Value} (r : TRel E T tmps) : TRel E' T tmps := ⟨r.size, fun t => (r.at_ t).mono h⟩

theorem getD_set (T : List Value) (d t : Nat) (v : Value) (hd : d < T.length) : (T.set d v).getD t undef = if t = d then v else T.getD t undef := by
  simp only [List.getD_eq_getElem?_getD, List.getElem?_set]
  by_cases h : d = t
  · subst h; simp [hd]
  · simp [h, Ne.symm h]

theorem getD_setA (a : Array Value) (d t : Nat) (v : Value) (hd : d < a.size) : (a.setIfInBounds d v).getD t undef = if t = d then v else a.getD t undef := by
  simp only [Array.getD_eq_getD_getElem?, Array.getElem?_setIfInBounds]
  by_cases h : d = t
  · subst h; simp [hd]
  · simp [h, Ne.symm h]

theorem TRel.put {E : Env} {T : List Value} {a : Act} (r : TRel E T a.tmps) (dst : Option Tmp) {v v' : Value} (hv : VRel E v v') : TRel E (putA T dst v) (a.put dst v').tmps := by
  cases dst with
  | none => exact r
  | some d =>
    refine ⟨by simp [putA, Act.put, r.size], fun t => ?_⟩
    by_cases hd : d < T.length
    · show VRel E ((T.set d v).getD t undef) ((a.tmps.setIfInBounds d v').getD t undef)
      rw [getD_set T d t v hd, getD_setA a.tmps d t v' (by rw [r.size]; exact hd)]
      split
      · exact hv
      · exact r.at_ t
    · have h1 : T.set d v = T := List.set_eq_of_length_le (Nat.le_of_not_lt hd)
      have h2 : a.tmps.setIfInBounds d v' = a.tmps := Array.setIfInBounds_eq_of_size_le (by rw [r.size]; exact Nat.le_of_not_lt hd)
      show VRel E ((T.set d v).getD t undef) ((a.tmps.setIfInBounds d v').getD t undef)
      rw [h1, h2]
      exact r.at_ t

/-- What a guard's operation yielded. -/
def yieldsT (ops : Array Oper) (val : Nat → Value) (j : Nat) : Option Bool :=
  match (ops[j]?).bind (·.dst) with
  | some d => match val d with
    | .bool b => some b
    | _ => none
  | none => none

theorem yielded_rel {E : Env} {ops : Array Oper} {val : Nat → Value} {tmps : Array Value} {j : Nat} (h : ∀ d, (ops[j]?).bind (·.dst) = some d → VRel E (val d) (tmps.getD d undef)) (hJ : ∀ d, (ops[j]?).bind (·.dst) = some d → isJ (val d) = false) : yielded ops tmps j = yieldsT ops val j := by
  unfold yielded yieldsT
  cases hd : (ops[j]?).bind (·.dst) with
  | none => simp
  | some d =>
    have hr := h d hd
    have hj := hJ d hd
    simp only [Option.bind_some]
    by_cases hlt : d < tmps.size
    · have e : tmps.getD d undef = tmps[d] := by simp [Array.getD, hlt]
      rw [e] at hr
      rw [Array.getElem?_eq_getElem hlt]
      generalize tmps[d] = u at hr
      generalize val d = v at hr hj
      cases hr <;> first | rfl | cases hj
    · have e : tmps.getD d undef = undef := by simp [Array.getD, hlt]
      rw [e] at hr
      rw [Array.getElem?_eq_none (Nat.le_of_not_lt hlt)]
      generalize val d = v at hr hj
      cases hr <;> first | rfl | cases hj

def wantedT (ops : Array Oper) (o : Oper) (val : Nat → Value) : Bool :=
  match o.guard with
  | none => true
  | some (j, want) => yieldsT ops val j == some want

theorem wanted_rel {E : Env} {ops : Array Oper} {o : Oper} {val : Nat → Value} {tmps : Array Value} (h : ∀ j b d, o.guard = some (j, b) → (ops[j]?).bind (·.dst) = some d → VRel E (val d) (tmps.getD d undef)) (hJ : ∀ j b d, o.guard = some (j, b) → (ops[j]?).bind (·.dst) = some d → isJ (val d) = false) :
    Region.wanted o (yielded ops tmps) = wantedT ops o val := by
  unfold Region.wanted wantedT
  cases hg : o.guard with
  | none => rfl
  | some p =>
    obtain ⟨j, b⟩ := p
    simp only
    rw [yielded_rel (val := val) (fun d hd => h j b d hg hd) (fun d hd => hJ j b d hg hd)]

def okOper (ops : Array Oper) (T : List Value) (o : Oper) : Bool := o.op.operands.all okOperand && match o.guard with
  | none => true
  | some (j, _) => match (ops[j]?).bind (·.dst) with
    | some d => !isJ (T.getD d undef)
    | none => true

theorem okOper_ops {ops : Array Oper} {T : List Value} {o : Oper} (h : okOper ops T o = true) : o.op.operands.all okOperand = true := by
  unfold okOper at h
  simp only [Bool.and_eq_true] at h
  exact h.1
theorem okOper_guard {ops : Array Oper} {T : List Value} {o : Oper} (h : okOper ops T o = true) : ∀ j b d, o.guard = some (j, b) → (ops[j]?).bind (·.dst) = some d → isJ (T.getD d undef) = false := by
  intro j b d hg hd
  unfold okOper at h
  simp only [Bool.and_eq_true, hg, hd, Bool.not_eq_true'] at h
  exact h.2

theorem rels_of {E : Env} {ops : Array Oper} {T : List Value} {a : Act} {o : Oper} (hT : ∀ t, VRel E (T.getD t undef) (a.tmps.getD t undef)) (h : okOper ops T o = true) : Rels E (ev T) a o := by
  intro x hx
  refine ev_rel hT x ?_
  obtain ⟨i, hi, hxi⟩ := Array.mem_iff_getElem.1 hx
  have := Array.all_eq_true.1 (okOper_ops h) i hi
  rwa [hxi] at this

/-- A region in the order of its text. -/
def Run (P : Program) (ops : Array Oper) : List Oper → List Value → Heap → Defs → (List Value → Heap → Defs → Prop) → Prop
  | [], T, H, D, K => K T H D
  | o :: rest, T, H, D, K => okOper ops T o = true ∧
      ((wantedT ops o (T.getD · undef) = true ∧ ∃ v H' D', SDoes P o (ev T) H D v H' D' ∧ Run P ops rest (putA T o.dst v) H' D' K) ∨
       (wantedT ops o (T.getD · undef) = false ∧ Run P ops rest (putA T o.dst undef) H D K))

theorem put_tmps (a : Act) (ds : List Deferred) (dst : Option Tmp) (v : Value) : ({ a with defers := ds }.put dst v).tmps = (a.put dst v).tmps := by cases dst <;> rfl
theorem put_defers' (a : Act) (dst : Option Tmp) (v : Value) : (a.put dst v).defers = a.defers := by cases dst <;> rfl

structure SRel (P : Program) (B : Nat) (E : Env) (T : List Value) (H : Heap) (D : Defs) (a : Act) (w : World) : Prop where
  heap : HRel P B E H w
  tmps : TRel E T a.tmps
  defs : DsRel E D a.defers

theorem run_sound {P : Program} {ops : Array Oper} {K : List Value → Heap → Defs → Prop} {Q : Exit → Act → World → Prop} {B : Nat} {rd : Option Nat} {n : Nat} (hk : ∀ (i : Nat) (o : Oper), ops[i]? = some o → OkO rd o) : ∀ (rest : List Oper) (i : Nat) (T : List Value) (H : Heap) (D : Defs) (E : Env) (a : Act) (w : World),
    ops.toList.drop i = rest → Run P ops rest T H D K → SRel P B E T H D a w →
    (∀ E' T' H' D' a' w', K T' H' D' → E.le E' → SRel P B E' T' H' D' a' w' → Below B w w' → Q .normal a' w') →
    wpOpsIn (FR rd) n P ops Q (List.range' i (ops.size - i)) a w
  | [], i, T, H, D, E, a, w, hd, hrun, hS, hK => by
    have : ops.size - i = 0 := by
      have := congrArg List.length hd
      simpa using this
    rw [this]
    exact hK E T H D a w hrun (.refl E) hS (.refl B w)
  | o :: rest, i, T, H, D, E, a, w, hd, hrun, hS, hK => by
    have hi : i < ops.size := by
      have := congrArg List.length hd
      simp at this
      omega
    have ho : ops[i]? = some o := by
      have : (ops.toList.drop i)[0]? = some o := by rw [hd]; rfl
      simpa using this
    have hrest : ops.toList.drop (i + 1) = rest := by
      rw [← List.drop_drop, hd]; rfl
    rw [show ops.size - i = (ops.size - (i + 1)) + 1 by omega, List.range'_succ]
    simp only [wpOpsIn, ho]
    obtain ⟨hok, hcase⟩ := hrun
    have hw : Region.wanted o (yielded ops a.tmps) = wantedT ops o (T.getD · undef) := wanted_rel (fun j b d _ _ => hS.tmps.at_ d) (okOper_guard hok)
    rw [hw]
    rcases hcase with ⟨hwt, v, H', D', hdoes, hnext⟩ | ⟨hwt, hnext⟩
    · rw [hwt]
      simp only [if_true]
      refine hdoes B E a w rd n (hk i o ho) hS.heap hS.defs (rels_of hS.tmps.at_ hok) _ _ ?_
      intro E' v' w' ds' h1 h2 h3 h4 h5
      refine run_sound hk rest (i + 1) (putA T o.dst v) H' D' E' _ w' hrest hnext ⟨h2, ?_, ?_⟩ ?_
      · rw [put_tmps]; exact (hS.tmps.mono h1).put o.dst h3
      · rw [put_defers']; exact h5
      · intro E'' T' H'' D'' a' w'' k1 k2 k3 k4
        exact hK E'' T' H'' D'' a' w'' k1 (h1.trans k2) k3 (h4.trans k4)
    · rw [hwt]
      simp only [Bool.false_eq_true, if_false]
      refine ⟨fun _ _ => trivial, run_sound hk rest (i + 1) (putA T o.dst undef) H D E _ w hrest hnext ⟨hS.heap, hS.tmps.put o.dst (.undef E), ?_⟩ hK⟩
      rw [put_defers']; exact hS.defs
end Go.Abs

namespace Go.Abs
open Go.RowKit (Below)

def bit (bs : Array Nat) (i j : Nat) : Bool := (bs.getD i 0).testBit j

def looks (ops : Array Oper) (o : Oper) (t : Tmp) : Bool := (o.looksAt ops).contains t || o.dst == some t

/-- Whatever writes a temporary is ordered against whatever looks at it. -/
def regOK (ops : Array Oper) : Bool :=
  let bs := Region.before ops
  (List.range ops.size).all fun i => match ops[i]? with
    | none => true
    | some o => (o.after.all fun e => !Region.binds .any e || Nat.blt e.on i) &&
      (List.range ops.size).all fun j => match (ops[j]?).bind (·.dst) with
        | none => true
        | some t => Nat.beq i j || !looks ops o t || (bif Nat.blt j i then bit bs i j else bit bs j i)

structure RegOK (ops : Array Oper) : Prop where
  edge : ∀ i o e, ops[i]? = some o → e ∈ o.after → Region.binds .any e = true → e.on < i
  ord : ∀ i j o t, ops[i]? = some o → (ops[j]?).bind (·.dst) = some t → i ≠ j → looks ops o t = true → (j < i → bit (Region.before ops) i j = true) ∧ (i < j → bit (Region.before ops) j i = true)

theorem regOK_spec {ops : Array Oper} (h : regOK ops = true) : RegOK ops := by
  unfold regOK at h
  simp only [List.all_eq_true, List.mem_range] at h
  refine ⟨fun i o e ho he hb => ?_, fun i j o t ho ht hne hl => ?_⟩
  · have hi : i < ops.size := (Array.getElem?_eq_some_iff.1 ho).1
    have := h i hi
    simp only [ho, Bool.and_eq_true] at this
    obtain ⟨k, hk, hek⟩ := Array.mem_iff_getElem.1 he
    have h2 := Array.all_eq_true.1 this.1 k hk
    rw [hek, hb] at h2
    simpa [Nat.blt_eq] using h2
  · have hi : i < ops.size := (Array.getElem?_eq_some_iff.1 ho).1
    have hj : j < ops.size := by
      cases hoj : ops[j]? with
      | none => simp [hoj] at ht
      | some oj => exact (Array.getElem?_eq_some_iff.1 hoj).1
    have := h i hi
    simp only [ho, Bool.and_eq_true] at this
    have h2 := List.all_eq_true.1 this.2 j (List.mem_range.2 hj)
    simp only [ht, hl, Bool.not_true, Bool.or_false, Bool.or_eq_true] at h2
    have h3 : Nat.beq i j = false := by
      cases hb : Nat.beq i j with
      | false => rfl
      | true => exact absurd (beqN hb) hne
    rw [h3] at h2
    simp only [Bool.false_eq_true, false_or] at h2
    refine ⟨fun hlt => ?_, fun hlt => ?_⟩
    · rw [show Nat.blt j i = true by simpa [Nat.blt_eq] using hlt, cond_true] at h2; exact h2
    · have : Nat.blt j i = false := by
        cases hb : Nat.blt j i with
        | false => rfl
        | true => have : j < i := by simpa [Nat.blt_eq] using hb
                  omega
      rw [this, cond_false] at h2; exact h2

/-- The bits are edges, one behind the other. -/
theorem fold_bits {after : List Edge} {acc : Array Nat} {j : Nat} : ∀ (s : Nat), (after.foldl (fun s e => if Region.binds .any e then s ||| 2 ^ e.on ||| acc.getD e.on 0 else s) s).testBit j = true →
    s.testBit j = true ∨ ∃ e ∈ after, Region.binds .any e = true ∧ (e.on = j ∨ (acc.getD e.on 0).testBit j = true) := by
  induction after with
  | nil => intro s h; exact .inl h
  | cons e l ih =>
    intro s h
    simp only [List.foldl_cons] at h
    rcases ih _ h with h | ⟨e', he', hb', hc'⟩
    · split at h
      · rename_i hb
        simp only [Nat.testBit_or, Bool.or_eq_true] at h
        rcases h with (h | h) | h
        · exact .inl h
        · refine .inr ⟨e, List.mem_cons_self .., hb, .inl ?_⟩
          have : decide (e.on = j) = true := by simpa [Nat.testBit_two_pow] using h
          simpa using this
        · exact .inr ⟨e, List.mem_cons_self .., hb, .inr h⟩
      · exact .inl h
    · exact .inr ⟨e', List.mem_cons_of_mem _ he', hb', hc'⟩

theorem getD_push_eq (acc : Array Nat) (x : Nat) : (acc.push x).getD acc.size 0 = x := by simp [Array.getD_eq_getD_getElem?]
theorem getD_push_lt (acc : Array Nat) (x k : Nat) (hk : k < acc.size) : (acc.push x).getD k 0 = acc.getD k 0 := by simp [Array.getD_eq_getD_getElem?, Array.getElem?_push, Nat.ne_of_lt hk]

theorem before_prefix : ∀ (l : List Oper) (acc : Array Nat), ∃ bs : Array Nat, l.foldl (fun acc o => acc.push (o.after.foldl (fun s e => if Region.binds .any e then s ||| 2 ^ e.on ||| acc.getD e.on 0 else s) 0)) acc = bs ∧
    bs.size = acc.size + l.length ∧ (∀ k, k < acc.size → bs.getD k 0 = acc.getD k 0) ∧
    ∀ i o, l[i]? = some o → ∀ j, (bs.getD (acc.size + i) 0).testBit j = true → ∃ e ∈ o.after, Region.binds .any e = true ∧ (e.on = j ∨ (e.on < acc.size + i ∧ (bs.getD e.on 0).testBit j = true)) := by
  intro l
  induction l with
  | nil => intro acc; exact ⟨acc, rfl, by simp, fun _ _ => rfl, fun i o h => by simp at h⟩
  | cons o l ih =>
    intro acc
    obtain ⟨bs, h1, h2, h3, h4⟩ := ih (acc.push (o.after.foldl (fun s e => if Region.binds .any e then s ||| 2 ^ e.on ||| acc.getD e.on 0 else s) 0))
    simp only [Array.size_push] at h2 h3 h4
    refine ⟨bs, by simpa using h1, by simp [h2]; omega, fun k hk => ?_, fun i o' hi j hj => ?_⟩
    · rw [h3 k (by omega), getD_push_lt _ _ _ hk]
    · cases i with
      | zero =>
        simp only [List.getElem?_cons_zero, Option.some.injEq] at hi
        subst hi
        rw [Nat.add_zero, h3 acc.size (by omega), getD_push_eq, ← Array.foldl_toList] at hj
        rcases fold_bits 0 hj with h0 | ⟨e, he, hb, hc⟩
        · simp at h0
        · refine ⟨e, by simpa using he, hb, ?_⟩
          rcases hc with hc | hc
          · exact .inl hc
          · have hlt : e.on < acc.size := by
              apply Classical.byContradiction
              intro hge
              simp [Array.getD, hge] at hc
            exact .inr ⟨by omega, by rw [h3 e.on (by omega), getD_push_lt _ _ _ hlt]; exact hc⟩
      | succ i =>
        have := h4 i o' (by simpa using hi) j (by rw [show acc.size + 1 + i = acc.size + (i + 1) by omega]; exact hj)
        obtain ⟨e, he, hb, hc⟩ := this
        exact ⟨e, he, hb, hc.imp id (fun ⟨ha, hb⟩ => ⟨by omega, hb⟩)⟩

theorem before_bit {ops : Array Oper} {i j : Nat} {o : Oper} (ho : ops[i]? = some o) (h : bit (Region.before ops) i j = true) : ∃ e ∈ o.after, Region.binds .any e = true ∧ (e.on = j ∨ (e.on < i ∧ bit (Region.before ops) e.on j = true)) := by
  obtain ⟨bs, h1, h2, _, h4⟩ := before_prefix ops.toList #[]
  have hb : Region.before ops = bs := by
    rw [← h1]
    unfold Region.before
    rw [← Array.foldl_toList]
  rw [hb] at h ⊢
  have := h4 i o (by simpa using ho) j (by simpa [bit] using h)
  simpa [bit] using this

/-- The last writer of a temporary among the listed ones below k. -/
def lastW (ops : Array Oper) (S : Nat → Bool) (t : Tmp) : Nat → Option Nat
  | 0 => none
  | k + 1 => if S k = true ∧ (ops[k]?).bind (·.dst) = some t then some k else lastW ops S t k

def valOf (ops : Array Oper) (v : Nat → Value) (T0 : List Value) (S : Nat → Bool) (n : Nat) (t : Tmp) : Value :=
  match lastW ops S t n with
  | some j => v j
  | none => T0.getD t undef

theorem lastW_congr {ops : Array Oper} {S S' : Nat → Bool} {t : Tmp} : ∀ {n : Nat}, (∀ j, j < n → (ops[j]?).bind (·.dst) = some t → S j = S' j) → lastW ops S t n = lastW ops S' t n
  | 0, _ => rfl
  | n + 1, h => by
    simp only [lastW]
    have ih := lastW_congr (n := n) fun j hj => h j (by omega)
    by_cases hd : (ops[n]?).bind (·.dst) = some t
    · rw [h n (by omega) hd, ih]
    · simp [hd, ih]

theorem lastW_cut {ops : Array Oper} {S : Nat → Bool} {t : Tmp} {i : Nat} : ∀ {n : Nat}, i ≤ n → (∀ j, i ≤ j → j < n → (ops[j]?).bind (·.dst) = some t → S j = false) → lastW ops S t n = lastW ops S t i
  | 0, hi, _ => by rw [show i = 0 by omega]
  | n + 1, hi, h => by
    by_cases he : i = n + 1
    · rw [he]
    · simp only [lastW]
      have : ¬ (S n = true ∧ (ops[n]?).bind (·.dst) = some t) := by
        rintro ⟨h1, h2⟩
        rw [h n (by omega) (by omega) h2] at h1
        cases h1
      rw [if_neg this]
      exact lastW_cut (by omega) fun j hj hj' => h j hj (by omega)

def lastE (ef : Nat → Bool) (S : Nat → Bool) : Nat → Nat
  | 0 => 0
  | k + 1 => if S k = true ∧ ef k = true then k + 1 else lastE ef S k

theorem lastE_le (ef S : Nat → Bool) : ∀ n, lastE ef S n ≤ n
  | 0 => Nat.le_refl _
  | n + 1 => by
    simp only [lastE]
    split
    · exact Nat.le_refl _
    · have := lastE_le ef S n; omega

theorem lastE_spec (ef S : Nat → Bool) : ∀ n, lastE ef S n = 0 ∨ (∃ e, lastE ef S n = e + 1 ∧ e < n ∧ S e = true ∧ ef e = true)
  | 0 => .inl rfl
  | n + 1 => by
    simp only [lastE]
    split
    · rename_i h; exact .inr ⟨n, rfl, by omega, h.1, h.2⟩
    · rcases lastE_spec ef S n with h | ⟨e, h1, h2, h3⟩
      · exact .inl h
      · exact .inr ⟨e, h1, by omega, h3⟩

theorem lastE_max (ef S : Nat → Bool) : ∀ n e, e < n → S e = true → ef e = true → e < lastE ef S n
  | 0, e, h, _, _ => by omega
  | n + 1, e, h, h1, h2 => by
    simp only [lastE]
    split
    · omega
    · rename_i hc
      by_cases he : e = n
      · subst he; exact absurd ⟨h1, h2⟩ hc
      · exact lastE_max ef S n e (by omega) h1 h2

theorem lastE_congr {ef S S' : Nat → Bool} : ∀ {n : Nat}, (∀ e, e < n → ef e = true → S e = S' e) → lastE ef S n = lastE ef S' n
  | 0, _ => rfl
  | n + 1, h => by
    simp only [lastE]
    have ih := lastE_congr (n := n) fun e he => h e (by omega)
    cases hf : ef n with
    | false => simp [ih]
    | true => rw [h n (by omega) hf, ih]

theorem lastE_is {ef S : Nat → Bool} {i : Nat} (hS : S i = true) (hf : ef i = true) : ∀ {n : Nat}, i < n → (∀ e, i < e → e < n → ef e = true → S e = false) → lastE ef S n = i + 1
  | 0, h, _ => by omega
  | n + 1, h, hh => by
    simp only [lastE]
    by_cases he : i = n
    · subst he; rw [if_pos ⟨hS, hf⟩]
    · rw [if_neg]
      · exact lastE_is hS hf (by omega) fun e h1 h2 => hh e h1 (by omega)
      · rintro ⟨h1, h2⟩
        rw [hh n (by omega) (by omega) h2] at h1
        cases h1

theorem lastW_is {ops : Array Oper} {S : Nat → Bool} {t : Tmp} {i : Nat} (hS : S i = true) (hd : (ops[i]?).bind (·.dst) = some t) : ∀ {n : Nat}, i < n → (∀ j, i < j → j < n → (ops[j]?).bind (·.dst) = some t → S j = false) → lastW ops S t n = some i
  | 0, h, _ => by omega
  | n + 1, h, hh => by
    simp only [lastW]
    by_cases he : i = n
    · subst he; rw [if_pos ⟨hS, hd⟩]
    · rw [if_neg]
      · exact lastW_is hS hd (by omega) fun j h1 h2 => hh j h1 (by omega)
      · rintro ⟨h1, h2⟩
        rw [hh n (by omega) (by omega) h2] at h1
        cases h1

theorem countP_all {S : Nat → Bool} {n : Nat} (h : (List.range n).countP (fun j => !S j) = 0) : ∀ j, j < n → S j = true := by
  intro j hj
  have := List.countP_eq_zero.1 h j (List.mem_range.2 hj)
  simpa using this

theorem countP_set {S S' : Nat → Bool} {n i k : Nat} (hi : i < n) (h0 : S i = false) (h1 : S' i = true) (hne : ∀ j, j ≠ i → S' j = S j) (h : (List.range n).countP (fun j => !S j) = k + 1) : (List.range n).countP (fun j => !S' j) = k := by
  induction n generalizing k with
  | zero => omega
  | succ n ih =>
    rw [List.range_succ, List.countP_append] at h ⊢
    simp only [List.countP_cons, List.countP_nil, Nat.zero_add] at h ⊢
    by_cases e : i = n
    · subst e
      have : (List.range i).countP (fun j => !S' j) = (List.range i).countP (fun j => !S j) := List.countP_congr fun j hj => by
        rw [hne j (by have := List.mem_range.1 hj; omega)]
      rw [this, h1]
      rw [h0] at h
      simp at h ⊢
      exact h
    · rw [hne n (fun he => e he.symm)]
      cases hs : S n with
      | true => rw [hs] at h; simp at h ⊢; exact ih (by omega) h
      | false =>
        rw [hs] at h
        simp at h ⊢
        cases k with
        | zero =>
          exfalso
          have := countP_all h i (by omega)
          rw [h0] at this; cases this
        | succ k => rw [ih (by omega) h]

/-- The frame and the values of a region in the text's order. -/
structure Fr (ops : Array Oper) (n : Nat) (T : Nat → List Value) (v : Nat → Value) : Prop where
  ok : ∀ i o, i < n → ops[i]? = some o → okOper ops (T i) o = true
  dst : ∀ i o d, i < n → ops[i]? = some o → o.dst = some d → d < (T 0).length
  tmp : ∀ i o, i < n → ops[i]? = some o → T (i + 1) = putA (T i) o.dst (v i)
  skip : ∀ i o, i < n → ops[i]? = some o → wantedT ops o ((T i).getD · undef) = false → v i = undef

section
variable {ops : Array Oper} {n : Nat} {T : Nat → List Value} {v : Nat → Value}

theorem Fr.len (tr : Fr ops n T v) (hn : n ≤ ops.size) : ∀ i, i ≤ n → (T i).length = (T 0).length
  | 0, _ => rfl
  | i + 1, hi => by
    have ho : ops[i]? = some ops[i] := Array.getElem?_eq_getElem (by omega)
    rw [tr.tmp i _ (by omega) ho]
    unfold putA
    split
    · rw [List.length_set]; exact tr.len hn i (by omega)
    · exact tr.len hn i (by omega)

/-- The frame in the text's order. -/
theorem Fr.val (tr : Fr ops n T v) (hn : n ≤ ops.size) (t : Tmp) : ∀ i, i ≤ n → (T i).getD t undef = valOf ops v (T 0) (fun _ => true) i t
  | 0, _ => rfl
  | i + 1, hi => by
    have ho : ops[i]? = some ops[i] := Array.getElem?_eq_getElem (by omega)
    have ih := tr.val hn t i (by omega)
    rw [tr.tmp i _ (by omega) ho]
    unfold valOf
    simp only [lastW, true_and, ho, Option.bind_some]
    cases hd : ops[i].dst with
    | none => rw [if_neg (by simp)]; exact ih
    | some d =>
      have hlt : d < (T i).length := by rw [tr.len hn i (by omega)]; exact tr.dst i _ d (by omega) ho hd
      show ((T i).set d (v i)).getD t undef = _
      rw [getD_set _ _ _ _ hlt]
      by_cases e : t = d
      · subst e; simp
      · rw [if_neg e, if_neg (by simpa using fun h => e h.symm)]
        exact ih
end
end Go.Abs

namespace Go.Abs
open Go.RowKit (Below)

/-- Any order, over an invariant of what has been done. -/
theorem wpAny_of_inv {P : Program} {ops : Array Oper} {D : Defs} {T : Nat → List Value} {v : Nat → Value} (tr : Fr ops ops.size T v) (hok : RegOK ops) {Q : Exit → Act → World → Prop} {B : Nat} {rd : Option Nat} {n : Nat} (Inv : Env → (Nat → Bool) → World → Prop) (E0 : Env) (w0 : World)
    (hcongr : ∀ E S S' w, (∀ j, j < ops.size → S j = S' j) → Inv E S w → Inv E S' w)
    (hQ : ∀ E a w, E0.le E → Inv E (fun _ => true) w → TRel E (T ops.size) a.tmps → DsRel E D a.defers → Below B w0 w → Q .normal a w)
    (hskip : ∀ E S w i o, i < ops.size → ops[i]? = some o → wantedT ops o ((T i).getD · undef) = false → S i = false → Inv E S w → Inv E (fun j => if j = i then true else S j) w)
    (hstep : ∀ E S w i o (a : Act), i < ops.size → ops[i]? = some o → wantedT ops o ((T i).getD · undef) = true → S i = false → (∀ e, bit (Region.before ops) i e = true → S e = true) → (∀ e, S e = true → bit (Region.before ops) e i = false) →
      Inv E S w → Rels E (ev (T i)) a o → DsRel E D a.defers → ∀ K : Act → World → Prop,
        (∀ E' v' w' ds', E.le E' → Inv E' (fun j => if j = i then true else S j) w' → VRel E' (v i) v' → Below B w w' → DsRel E' D ds' → K ({ a with defers := ds' }.put o.dst v') w') → o.wpIn (FR rd) n P a w K Q) :
    ∀ (fuel : Nat) (listed : Array Bool) (E : Env) (a : Act) (w : World), listed.size = ops.size → (List.range ops.size).countP (fun j => !listed.getD j false) = fuel →
      (∀ i, listed.getD i false = true → ∀ j, bit (Region.before ops) i j = true → listed.getD j false = true) →
      a.tmps.size = (T 0).length → (∀ t, VRel E (valOf ops v (T 0) (listed.getD · false) ops.size t) (a.tmps.getD t undef)) →
      Inv E (listed.getD · false) w → DsRel E D a.defers → E0.le E → Below B w0 w → wpAnyIn (FR rd) n P .any ops Q fuel listed a w := by
  intro fuel
  induction fuel with
  | zero =>
    intro listed E a w hsz hcnt hcl hts htmp hheap hD hle hbel
    have hall := countP_all hcnt
    refine ⟨?_, ?_⟩
    · unfold Region.ready
      rw [List.filter_eq_nil_iff]
      intro i hi
      have hi := List.mem_range.1 hi
      have h1 := hall i hi
      have : listed.getD i true = true := by
        have hlt : i < listed.size := by omega
        simp only [Array.getD, hlt, dif_pos] at h1 ⊢
        exact h1
      simp [this]
    · refine hQ E a w hle (hcongr E _ _ w hall hheap) ⟨?_, fun t => ?_⟩ hD hbel
      · rw [hts, tr.len (Nat.le_refl _) ops.size (Nat.le_refl _)]
      · rw [tr.val (Nat.le_refl _) t ops.size (Nat.le_refl _)]
        have : valOf ops v (T 0) (listed.getD · false) ops.size t = valOf ops v (T 0) (fun _ => true) ops.size t := by
          unfold valOf
          rw [lastW_congr (S' := fun _ => true) fun j hj _ => hall j hj]
        rw [← this]; exact htmp t
  | succ fuel ih =>
    intro listed E a w hsz hcnt hcl hts htmp hheap hD hle hbel
    have hgt : ∀ i, i < ops.size → listed.getD i true = listed.getD i false := fun i hi => by
      have hlt : i < listed.size := by omega
      simp [Array.getD, hlt]
    refine ⟨fun hnil => ?_, fun i hi => ?_⟩
    · exfalso
      -- some operation is ready
      have hex : ∃ i, i < ops.size ∧ listed.getD i false = false := by
        apply Classical.byContradiction
        intro hno
        have : (List.range ops.size).countP (fun j => !listed.getD j false) = 0 := by
          rw [List.countP_eq_zero]
          intro j hj
          have hj := List.mem_range.1 hj
          cases hb : listed.getD j false with
          | true => simp
          | false => exact absurd ⟨j, hj, hb⟩ hno
        omega
      obtain ⟨i, hi1, hi2⟩ : ∃ i, (i < ops.size ∧ listed.getD i false = false) ∧ ∀ j, j < i → listed.getD j false = true := by
        obtain ⟨i, hi⟩ := hex
        induction i using Nat.strongRecOn with
        | _ i ihi =>
          by_cases hm : ∃ j, j < i ∧ listed.getD j false = false
          · obtain ⟨j, hj1, hj2⟩ := hm; exact ihi j hj1 ⟨by omega, hj2⟩
          · exact ⟨i, hi, fun j hj => by
              cases hb : listed.getD j false with
              | true => rfl
              | false => exact absurd ⟨j, hj, hb⟩ hm⟩
      have hmem : i ∈ Region.ready .any ops listed := by
        unfold Region.ready
        rw [List.mem_filter]
        refine ⟨List.mem_range.2 hi1.1, ?_⟩
        have ho : ops[i]? = some ops[i] := Array.getElem?_eq_getElem hi1.1
        rw [hgt i hi1.1, hi1.2, ho]
        simp only [Bool.not_false, Bool.true_and, Option.map_some, Option.getD_some]
        rw [Array.all_eq_true]
        intro k hk
        cases hb : Region.binds .any ops[i].after[k] with
        | false => simp
        | true =>
          have := hok.edge i _ _ ho (Array.getElem_mem hk) hb
          simp [hi2 _ this]
      rw [hnil] at hmem
      cases hmem
    · unfold Region.ready at hi
      rw [List.mem_filter] at hi
      obtain ⟨hi1, hi2⟩ := hi
      have hi1 := List.mem_range.1 hi1
      have ho : ops[i]? = some ops[i] := Array.getElem?_eq_getElem hi1
      generalize hoo : ops[i] = o at ho
      rw [hgt i hi1, ho] at hi2
      simp only [Option.map_some, Option.getD_some, Bool.and_eq_true, Bool.not_eq_true'] at hi2
      obtain ⟨hni, hall⟩ := hi2
      have hpre : ∀ e, bit (Region.before ops) i e = true → listed.getD e false = true := by
        intro e he
        obtain ⟨ed, h1, h2, h3⟩ := before_bit ho he
        obtain ⟨k, hk, hek⟩ := Array.mem_iff_getElem.1 h1
        have h4 := Array.all_eq_true.1 hall k hk
        rw [hek, h2] at h4
        have h5 : listed.getD ed.on false = true := by simpa using h4
        rcases h3 with h3 | ⟨_, h3⟩
        · rw [← h3]; exact h5
        · exact hcl _ h5 _ h3
      have hpost : ∀ e, listed.getD e false = true → bit (Region.before ops) e i = false := by
        intro e he
        cases hb : bit (Region.before ops) e i with
        | false => rfl
        | true => have := hcl e he i hb; rw [hni] at this; cases this
      have hagree : ∀ t, looks ops o t = true → valOf ops v (T 0) (listed.getD · false) ops.size t = (T i).getD t undef := by
        intro t ht
        rw [tr.val (Nat.le_refl _) t i (by omega)]
        unfold valOf
        rw [lastW_cut (i := i) (by omega) (fun j hj1 hj2 hjd => ?_), lastW_congr (S' := fun _ => true) (fun j hj hjd => ?_)]
        · exact hpre j ((hok.ord i j o t ho hjd (by omega) ht).1 hj)
        · by_cases e : j = i
          · subst e; exact hni
          · have hb := (hok.ord i j o t ho hjd (fun h => e h.symm) ht).2 (by omega)
            cases hl : listed.getD j false with
            | false => rfl
            | true => have := hcl j hl i hb; rw [hni] at this; cases this
      have hwt : Region.wanted o (yielded ops a.tmps) = wantedT ops o ((T i).getD · undef) := wanted_rel (fun j b d hg hd => by
        have hlk : looks ops o d = true := by
          unfold looks Oper.looksAt
          simp [hg, hd]
        rw [← hagree d hlk]
        exact htmp d) (okOper_guard (tr.ok i o hi1 ho))
      have hrels : Rels E (ev (T i)) a o := by
        intro x hx
        have hokx : okOperand x = true := by
          have hk := okOper_ops (tr.ok i o hi1 ho)
          obtain ⟨k, hk1, hk2⟩ := Array.mem_iff_getElem.1 hx
          have := Array.all_eq_true.1 hk k hk1
          rwa [hk2] at this
        cases x with
        | tmp t =>
          have hlk : looks ops o t = true := by
            unfold looks Oper.looksAt
            simp only [List.contains_eq_mem, Bool.or_eq_true, decide_eq_true_eq, List.mem_append, List.mem_filterMap]
            exact .inl (.inl ⟨.tmp t, by simpa using hx, rfl⟩)
          show VRel E ((T i).getD t undef) (a.tmps.getD t undef)
          rw [← hagree t hlk]
          exact htmp t
        | const c => exact .of_c1 hokx
        | global g => cases hokx
        | func f => exact ev_rel (T := []) (a := ⟨#[], []⟩) (fun t => by simp; exact .undef E) (.func f) rfl
      -- what the new set says
      have hS' : ∀ j, (listed.setIfInBounds i true).getD j false = if j = i then true else listed.getD j false := by
        intro j
        simp only [Array.getD_eq_getD_getElem?, Array.getElem?_setIfInBounds]
        by_cases e : i = j
        · subst e; simp [show i < listed.size by omega]
        · simp [e, Ne.symm e]
      have hcnt' : (List.range ops.size).countP (fun j => !(listed.setIfInBounds i true).getD j false) = fuel :=
        countP_set (S := (listed.getD · false)) (i := i) hi1 hni (by rw [hS', if_pos rfl]) (fun j hj => by rw [hS', if_neg hj]) hcnt
      have hcl' : ∀ k, (listed.setIfInBounds i true).getD k false = true → ∀ j, bit (Region.before ops) k j = true → (listed.setIfInBounds i true).getD j false = true := by
        intro k hk j hj
        rw [hS'] at hk ⊢
        split
        · rfl
        · split at hk
          · rename_i e; subst e; exact hpre j hj
          · exact hcl k hk j hj
      have hval' : ∀ t, valOf ops v (T 0) ((listed.setIfInBounds i true).getD · false) ops.size t = if o.dst = some t then v i else valOf ops v (T 0) (listed.getD · false) ops.size t := by
        intro t
        unfold valOf
        by_cases hd : o.dst = some t
        · rw [if_pos hd, lastW_is (i := i) (by rw [hS', if_pos rfl]) (by rw [ho]; exact hd) hi1 (fun j hj1 hj2 hjd => ?_)]
          rw [hS', if_neg (by omega)]
          have hb := (hok.ord i j o t ho hjd (by omega) (by simp [looks, hd])).2 hj1
          cases hl : listed.getD j false with
          | false => rfl
          | true => have := hcl j hl i hb; rw [hni] at this; cases this
        · rw [if_neg hd, lastW_congr (S' := (listed.getD · false)) (fun j hj hjd => ?_)]
          rw [hS', if_neg]
          intro e
          subst e
          rw [ho] at hjd
          exact hd hjd
      have hput : ∀ (E' : Env) (v' : Value) (ds : List Deferred), E.le E' → VRel E' (v i) v' → ∀ t, VRel E' (valOf ops v (T 0) ((listed.setIfInBounds i true).getD · false) ops.size t) ((({ a with defers := ds } : Act).put o.dst v').tmps.getD t undef) := by
        intro E' v' ds hE hv t
        rw [hval', put_tmps]
        cases hd : o.dst with
        | none => simpa [Act.put] using (htmp t).mono hE
        | some d =>
          have hlt : d < a.tmps.size := by rw [hts]; exact tr.dst i o d hi1 ho hd
          show VRel E' _ ((a.tmps.setIfInBounds d v').getD t undef)
          rw [getD_setA _ _ _ _ hlt]
          by_cases e : t = d
          · subst e; simpa using hv
          · rw [if_neg (by simpa using fun h => e h.symm), if_neg e]; exact (htmp t).mono hE
      have hputs : ∀ (v' : Value) (ds : List Deferred), (({ a with defers := ds } : Act).put o.dst v').tmps.size = (T 0).length := by
        intro v' ds
        rw [put_tmps, ← hts]
        cases o.dst <;> simp [Act.put]
      have hlz : (listed.setIfInBounds i true).size = ops.size := by simpa using hsz
      have hinv' : ∀ E w, Inv E (fun j => if j = i then true else listed.getD j false) w → Inv E ((listed.setIfInBounds i true).getD · false) w := fun E w h =>
        hcongr E _ _ w (fun j _ => (hS' j).symm) h
      unfold wpOpIn
      simp only [ho]
      rw [hwt]
      cases hwv : wantedT ops o ((T i).getD · undef) with
      | false =>
        simp only [Bool.false_eq_true, if_false]
        have hv0 := tr.skip i o hi1 ho hwv
        refine ⟨fun _ _ => trivial, ?_⟩
        refine ih _ E _ w hlz hcnt' hcl' (by have := hputs undef a.defers; exact this) (by have := hput E undef a.defers (.refl E) (by rw [hv0]; exact .undef E); exact this) (hinv' E w (hskip E _ w i o hi1 ho hwv hni hheap)) ?_ hle hbel
        rw [put_defers']; exact hD
      | true =>
        simp only [if_true]
        refine hstep E (listed.getD · false) w i o a hi1 ho hwv hni hpre hpost hheap hrels hD _ ?_
        intro E' v' w' ds' h1 h2 h3 h4 h5
        refine ih _ E' _ w' hlz hcnt' hcl' (hputs v' ds') (hput E' v' ds' h1 h3) (hinv' E' w' h2) ?_ (hle.trans h1) (hbel.trans h4)
        rw [put_defers']; exact h5
end Go.Abs

namespace Go.Abs
open Go.RowKit (Below)

theorem HRel.ext {P : Program} {B : Nat} {E : Env} {H H2 : Heap} {w : World} (h : HRel P B E H w) (hn : H.next ≤ H2.next) (hg : ∀ x, H2.get x = H.get x) : HRel P B E H2 w :=
  ⟨h.base, fun id l hl => Nat.lt_of_lt_of_le (h.dom id l hl) hn, fun id => by rw [hg]; exact h.obj id, fun i j li lj hi hj mi mj hb => h.inj i j li lj hi hj (by rw [← hg]; exact mi) (by rw [← hg]; exact mj) hb⟩

/-- A new block under a name that was kept free. -/
theorem HRel.fill {P : Program} {B : Nat} {E : Env} {H : Heap} {w w' : World} {o : AObj} {id : Nat} (l : Loc) (h : HRel P B E H w) (hid : E id = none) (hlt : id < H.next)
    (hblk : w.heap.size ≤ l.blk) (hsz : w.heap.size ≤ w'.heap.size) (hold : ∀ k, k < w.heap.size → w'.heap[k]? = w.heap[k]?) (ho : OR P B (E.add id l) w' id o) : HRel P B (E.add id l) (H.put id o) w' := by
  have hle := Env.le_add (l := l) hid
  have hget : ∀ i, i ≠ id → (H.put id o).get i = H.get i := fun i hi => by rw [Heap.get_put, if_neg (fun e => hi e.symm)]
  have hgn : (H.put id o).get id = o := by rw [Heap.get_put, if_pos rfl]
  refine ⟨Nat.le_trans h.base hsz, fun i l' hl => ?_, fun i => ?_, fun i j li lj hi hj mi mj hb => ?_⟩
  · unfold Env.add at hl
    split at hl
    · rename_i e; subst e; exact hlt
    · exact h.dom _ _ hl
  · by_cases e : i = id
    · subst e; rw [hgn]; exact ho
    · rw [hget i e]
      exact (h.obj i).keep hle h.base (fun _ _ hlt _ => hold _ hlt)
  · have key : ∀ i li, (E.add id l) i = some li → ((H.put id o).get i).mut = true → i ≠ id → li.blk < w.heap.size ∧ E i = some li ∧ (H.get i).mut = true := by
      intro i li hi mi hne
      rw [hget i hne] at mi
      simp only [Env.add, if_neg hne] at hi
      obtain ⟨l', h1, _, h3⟩ := (h.obj i).lt mi
      rw [h1] at hi; cases hi
      exact ⟨h3, h1, mi⟩
    by_cases e1 : i = id <;> by_cases e2 : j = id
    · rw [e1, e2]
    · exfalso
      have hj' := (key j lj hj mj e2).1
      subst e1
      simp only [Env.add, if_true, Option.some.injEq] at hi
      subst hi
      omega
    · exfalso
      have hi' := (key i li hi mi e1).1
      subst e2
      simp only [Env.add, if_true, Option.some.injEq] at hj
      subst hj
      omega
    · obtain ⟨_, h1, m1⟩ := key i li hi mi e1
      obtain ⟨_, h2, m2⟩ := key j lj hj mj e2
      exact h.inj i j li lj h1 h2 m1 m2 hb

/-- More names. -/
def Heap.sub (H H2 : Heap) : Prop := ∀ x, H.get x ≠ .dead → H2.get x = H.get x

/-- An operation that makes one block and changes nothing else. -/
def SFresh (P : Program) (o : Oper) (ρ : Operand → Value) (H : Heap) (id : Nat) (v : Value) (ob : AObj) : Prop :=
  ∀ (H2 : Heap), H.sub H2 → ∀ (B : Nat) (E : Env) (a : Act) (w : World), HRel P B E H2 w → Rels E ρ a o → E id = none →
    ∃ v' w' l, (execOp a.eval o).run P w = .ok (.value v') w' ∧ w.heap.size ≤ l.blk ∧ Below w.heap.size w w' ∧ VRel (E.add id l) v v' ∧ OR P B (E.add id l) w' id ob

/-- The same, whatever the heap. -/
def SFresh0 (P : Program) (o : Oper) (ρ : Operand → Value) (id : Nat) (v : Value) (ob : AObj) : Prop :=
  ∀ (B : Nat) (E : Env) (a : Act) (w : World), B ≤ w.heap.size → Rels E ρ a o → E id = none →
    ∃ v' obj, (execOp a.eval o).run P w = .ok (.value v') (w.alloc obj) ∧ VRel (E.add id ⟨w.heap.size, 0, 0⟩) v v' ∧ OR P B (E.add id ⟨w.heap.size, 0, 0⟩) (w.alloc obj) id ob
theorem SFresh0.fresh {P : Program} {o : Oper} {ρ : Operand → Value} {id : Nat} {v : Value} {ob : AObj} (h : SFresh0 P o ρ id v ob) (H : Heap) : SFresh P o ρ H id v ob := by
  intro H2 _ B E a w hH hr hid
  obtain ⟨v', obj, h1, h2, h3⟩ := h B E a w hH.base hr hid
  exact ⟨v', w.alloc obj, ⟨w.heap.size, 0, 0⟩, h1, Nat.le_refl _, (Below.refl _ w).alloc (Nat.le_refl _) obj, h2, h3⟩

def freshA (P : Program) (ρ : Operand → Value) (id : Nat) (o : Oper) : Option (Value × AObj) :=
  match o.op with
  | .makeMap _ none => some (.map (some id), .map [] 0)
  | .makeSlice t l c => match P.underlying t, ρ l, ρ c with
    | some (.slice e), .int _ l, .int _ c => match sizeT P e, bytesT P e, zeroT P e with
      | some size, some by_, some z =>
        bif decide (0 ≤ l) && decide (l ≤ c) && decide (c ≤ 9223372036854775807) && decide ((by_ : Int) * c ≤ 281474976710656) && (Nat.blt 0 (c.toNat * size) && Nat.blt 0 z.cells.size) && Nat.blt c.toNat capG then
          some (.slice (some ⟨id, 0, none⟩) l.toNat c.toNat, .cells (zerosOf z.cells (c.toNat * size)).toList e)
        else none
      | _, _, _ => none
    | _, _, _ => none
  | _ => none

theorem freshA_sound {P : Program} {ρ : Operand → Value} {id : Nat} {o : Oper} {v : Value} {ob : AObj} (h : freshA P ρ id o = some (v, ob)) : SFresh0 P o ρ id v ob := by
  intro B E a w hB hr hid
  unfold freshA at h
  split at h
  · rename_i t ho
    simp only [Option.some.injEq, Prod.mk.injEq] at h
    obtain ⟨rfl, rfl⟩ := h
    refine ⟨.map (some w.heap.size), .map #[] 0, by simp [execOp, ho, Instr.makeMap], .map id ⟨w.heap.size, 0, 0⟩ (by simp [Env.add]), ?_⟩
    exact ⟨⟨w.heap.size, 0, 0⟩, #[], by simp [Env.add], hB, heap_alloc_new w _, rfl, fun i e m he => by simp at he⟩
  · rename_i t l c ho
    have hl := hr l (by simp [ho, Op.operands])
    have hc := hr c (by simp [ho, Op.operands])
    split at h
    case h_2 => cases h
    rename_i e k1 l0 k2 c0 hu hvl hvc
    rw [hvl] at hl
    rw [hvc] at hc
    generalize hcl : a.eval l = ul at hl
    generalize hcc : a.eval c = uc at hc
    cases hl
    cases hc
    split at h
    case h_2 => cases h
    rename_i size by_ z hs hby hz
    obtain ⟨hb, hv⟩ := cond_some h
    simp only [Bool.and_eq_true, Prod.mk.injEq, decide_eq_true_eq] at hb hv
    obtain ⟨⟨⟨⟨⟨b1, b2⟩, b3⟩, b4⟩, b5, b5'⟩, b6⟩ := hb
    have b6 : c0.toNat < capG := by simpa [Nat.blt_eq] using b6
    have b5 : 0 < c0.toNat * size := by simpa [Nat.blt_eq] using b5
    have b5' : 0 < z.cells.size := by simpa [Nat.blt_eq] using b5'
    obtain ⟨rfl, rfl⟩ := hv
    obtain ⟨hzc, hzr, i, hi, hiz⟩ := zeroT_spec hz
    have hiby : i.bytes = by_ := by simp only [bytesT, hi, Option.map_some, Option.some.injEq] at hby; exact hby
    have hzz := zeros_rel (E := E.add id ⟨w.heap.size, 0, 0⟩) hzc (c0.toNat * size) (.inr b5')
    have hrel : LRel (E.add id ⟨w.heap.size, 0, 0⟩) (zerosOf z.cells (c0.toNat * size)).toList (zerosOf z.cells (c0.toNat * size)) := by rw [LRel, Array.toArray_toList]; exact hzz
    have hsn := slice_new E id w.heap.size l0.toNat c0.toNat 0 (by rw [relC_lt b6]; omega)
    rw [relC_lt b6] at hsn
    have wl : IntKind.i64.wrap l0 = l0 := by simp [IntKind.wrap, IntKind.bits, IntKind.signed]; omega
    have wc : IntKind.i64.wrap c0 = c0 := by simp [IntKind.wrap, IntKind.bits, IntKind.signed]; omega
    have n1 : ¬ c0 < 0 := by omega
    have n2 : ¬ l0 < 0 := by omega
    have n3 : ¬ c0 < l0 := by omega
    have n4 : ¬ 281474976710656 < (i.bytes : Int) * c0 := by rw [hiby]; omega
    have h0 : ¬ c0.toNat * size = 0 := by omega
    refine ⟨.slice (some ⟨w.heap.size, 0, none⟩) l0.toNat c0.toNat, .cells (zerosOf z.cells (c0.toNat * size)) e, ?_, hsn, ?_⟩
    · simp [execOp, ho, hcl, hcc, Instr.makeSlice, run_underlying hu, asInt, asIntOf, typeInfo, hi, wl, wc, n1, n2, n3, n4, run_sizeOf hs, hzr, newRow, zerosOf]
      exact fun hc => absurd hc h0
    · exact ⟨⟨w.heap.size, 0, 0⟩, _, by simp [Env.add], rfl, hB, heap_alloc_new w _, hrel⟩
  · cases h

def SQuietM (P : Program) (o : Oper) (ρ : Operand → Value) (H : Heap) (v : Value) : Prop := ∀ H2, H.sub H2 → SQuiet P o ρ H2 v

theorem SQuietM.here {P : Program} {o : Oper} {ρ : Operand → Value} {H : Heap} {v : Value} (h : SQuietM P o ρ H v) : SQuiet P o ρ H v := h H fun _ _ => rfl

theorem row_mono {H H2 : Heap} (h : H.sub H2) {id : Nat} {cs : List Value} (hr : H.row id = some cs) : H2.row id = some cs := by
  unfold Heap.row at hr ⊢
  have : H.get id ≠ .dead := fun e => by rw [e] at hr; cases hr
  rw [h id this]
  exact hr

theorem evR_mono {P : Program} {ρ : Operand → Value} {H H2 : Heap} {o : Oper} {v : Value} (hs : H.sub H2) (h : evR P ρ H o = some v) : evR P ρ H2 o = some v := by
  obtain ⟨dst, op, type, pos, after, guard⟩ := o
  cases op with
  | load t a =>
    simp only [evR, evQ] at h ⊢
    split at h
    · rename_i id off hv
      unfold loadA at h ⊢
      cases hr : H.row id with
      | none => simp [hr] at h
      | some cs => rw [row_mono hs hr]; rw [hr] at h; exact h
    · cases h
  | lookup t x k ok =>
    simp only [evR] at h ⊢
    unfold lookA at h ⊢
    split at h
    case h_2 => cases h
    rename_i kt et hu
    split at h
    case h_2 => cases h
    rename_i kd z hkd hz
    obtain ⟨hp, h⟩ := cond_opt h
    simp only [hp, cond_true]
    cases hx : ρ x with
    | map r =>
      cases r with
      | none => rw [hx] at h; exact h
      | some id =>
        rw [hx] at h
        simp only at h ⊢
        cases hg : H.get id with
        | map es c => rw [hs id (by rw [hg]; simp), hg]; rw [hg] at h; exact h
        | _ => simp [hg] at h
    | _ => simp [hx] at h
  | convert s d x =>
    simp only [evR] at h ⊢
    split at h
    · split at h
      case h_2 => cases h
      unfold strA at h ⊢
      split at h
      · exact h
      · split at h
        · exact h
        · split at h
          case h_2 => cases h
          rename_i hr
          rw [row_mono hs hr]; exact h
      · cases h
    · exact h
  | _ => exact h

theorem SQuietM.of_ev {P : Program} {o : Oper} {ρ : Operand → Value} {H : Heap} {v : Value} (h : evR P ρ H o = some v) : SQuietM P o ρ H v := fun _ hs => .of_ev (evR_mono hs h)
end Go.Abs

namespace Go.Abs
open Go.RowKit (Below)

def SPure (P : Program) (o : Oper) (ρ : Operand → Value) (v : Value) : Prop := ∀ H, SQuiet P o ρ H v

/-- A call that does the same whatever the heap. -/
theorem SPure.call {P : Program} {o : Oper} {c : Call} (ho : o.op = .call c) {ρ : Operand → Value} {v : Value} (hv : c2 v = true) {f : FuncId} {args : List Value} (hc : calleeA P ρ c = some (f, args)) (h : ∀ H, Does P f args H v H) : SPure P o ρ v := by
  intro H B E a w rd n hk hH hr K Q hK
  obtain ⟨args', h1, h2⟩ := enters (P := P) (w := w) ho hc hr
  have hH0 : HRel P w.heap.size E ⟨H.next, []⟩ w := ⟨Nat.le_refl _, hH.dom, fun _ => trivial, fun _ _ _ _ _ _ m => by cases m⟩
  refine wpIn_FR hk h1 ⟨fun h0 => (by cases h0), callsIn_FR ((h ⟨H.next, []⟩ w.heap.size E w args' hH0 h2).mono ?_)⟩
  rintro e w' ⟨E', v', _, _, g3, g4, rfl⟩
  rw [eq_of_c2 g3 hv]
  exact hK v w' (.of_c2 hv) g4

/-- The heap behind the fresh blocks that have been made. -/
def hs (H0 : Heap) (fr : Nat → Bool) (ob : Nat → AObj) (S : Nat → Bool) : Nat → Heap
  | 0 => H0
  | i + 1 => if fr i = true then (if S i = true then (hs H0 fr ob S i).push (ob i) else ⟨(hs H0 fr ob S i).next + 1, (hs H0 fr ob S i).l⟩) else hs H0 fr ob S i

section
variable {H0 : Heap} {fr : Nat → Bool} {ob : Nat → AObj}

theorem hs_next {S S' : Nat → Bool} : ∀ i, (hs H0 fr ob S i).next = (hs H0 fr ob S' i).next
  | 0 => rfl
  | i + 1 => by
    have ih := hs_next (S := S) (S' := S') i
    simp only [hs]
    split
    · split <;> split <;> simp [Heap.push, ih]
    · exact ih

theorem hs_congr {S S' : Nat → Bool} : ∀ i, (∀ j, j < i → fr j = true → S j = S' j) → hs H0 fr ob S i = hs H0 fr ob S' i
  | 0, _ => rfl
  | i + 1, h => by
    have ih := hs_congr (S := S) (S' := S') i fun j hj => h j (by omega)
    simp only [hs]
    split
    · rename_i hf; rw [h i (by omega) hf, ih]
    · exact ih

theorem hs_cut {S : Nat → Bool} {i : Nat} : ∀ n, i ≤ n → (∀ j, i ≤ j → j < n → fr j = false) → hs H0 fr ob S n = hs H0 fr ob S i
  | 0, hi, _ => by rw [show i = 0 by omega]
  | n + 1, hi, h => by
    by_cases e : i = n + 1
    · rw [e]
    · simp only [hs]
      rw [if_neg (by rw [h n (by omega) (by omega)]; simp)]
      exact hs_cut n (by omega) fun j h1 h2 => h j h1 (by omega)

theorem hs_mono {S : Nat → Bool} : ∀ n i, i ≤ n → (hs H0 fr ob S i).next ≤ (hs H0 fr ob S n).next
  | 0, i, hi => by rw [show i = 0 by omega]; exact Nat.le_refl _
  | n + 1, i, hi => by
    by_cases e : i = n + 1
    · rw [e]; exact Nat.le_refl _
    · refine Nat.le_trans (hs_mono n i (by omega)) ?_
      simp only [hs]
      split
      · split <;> simp [Heap.push]
      · exact Nat.le_refl _

theorem hs_lt {S : Nat → Bool} {n i : Nat} (h : i < n) (hf : fr i = true) : (hs H0 fr ob S i).next < (hs H0 fr ob S n).next := by
  refine Nat.lt_of_lt_of_le ?_ (hs_mono n (i + 1) (by omega))
  simp only [hs, if_pos hf]
  split <;> simp [Heap.push]

theorem hs_none : ∀ n x, (hs H0 fr ob (fun _ => false) n).get x = H0.get x
  | 0, _ => rfl
  | n + 1, x => by
    simp only [hs]
    split
    · exact hs_none n x
    · exact hs_none n x

theorem hs_set {S S' : Nat → Bool} {i : Nat} (hf : fr i = true) (h0 : S i = false) (h1 : S' i = true) (hne : ∀ j, j ≠ i → S' j = S j) : ∀ n, i < n → ∀ x, (hs H0 fr ob S' n).get x = if (hs H0 fr ob (fun _ => true) i).next = x then ob i else (hs H0 fr ob S n).get x
  | 0, h, _ => by omega
  | n + 1, h, x => by
    by_cases e : i = n
    · subst e
      have hc : hs H0 fr ob S' i = hs H0 fr ob S i := hs_congr i fun j hj _ => hne j (by omega)
      simp only [hs, if_pos hf, h0, h1, if_true, Bool.false_eq_true, if_false]
      rw [hc, Heap.get_push, hs_next (S' := fun _ => true)]
      rfl
    · have ih := hs_set hf h0 h1 hne n (by omega) x
      simp only [hs]
      split
      · rename_i hn
        rw [hne n (fun h => e h.symm)]
        have hlt := hs_lt (H0 := H0) (ob := ob) (S := S) (show i < n by omega) hf
        have hid : (hs H0 fr ob S i).next = (hs H0 fr ob (fun _ => true) i).next := hs_next i
        split
        · rw [Heap.get_push, Heap.get_push, hs_next (S := S') (S' := S)]
          by_cases ex : (hs H0 fr ob S n).next = x
          · rw [if_pos ex, if_pos ex, if_neg (by omega)]
          · rw [if_neg ex, if_neg ex]; exact ih
        · exact ih
      · exact ih
end

structure Tr (P : Program) (ops : Array Oper) (D : Defs) (n : Nat) (T : Nat → List Value) (H : Nat → Heap) (v : Nat → Value) (ef fr : Nat → Bool) (ob : Nat → AObj) : Prop where
  f : Fr ops n T v
  skip : ∀ i o, i < n → ops[i]? = some o → wantedT ops o ((T i).getD · undef) = false → ef i = false ∧ fr i = false
  quiet : ∀ i o k, i < n → ops[i]? = some o → wantedT ops o ((T i).getD · undef) = true → ef i = false → fr i = false → k ≤ n → (k = 0 ∨ ∃ e, k = e + 1 ∧ ef e = true) →
    (∀ e, e < n → ef e = true → bit (Region.before ops) i e = true → e < k) → (∀ e, k = e + 1 → bit (Region.before ops) e i = false) → SQuietM P o (ev (T i)) (H k) (v i)
  same : ∀ i, i < n → ef i = false → fr i = false → H (i + 1) = H i
  eff : ∀ i o, i < n → ops[i]? = some o → ef i = true → SDoes P o (ev (T i)) (H i) D (v i) (H (i + 1)) D
  fresh : ∀ i o, i < n → ops[i]? = some o → fr i = true → ef i = false ∧ H (i + 1) = (H i).push (ob i) ∧ SFresh P o (ev (T i)) (H 0) (H i).next (v i) (ob i) ∧ (H i).get (H i).next = .dead
  chain : ∀ e e', e < e' → e' < n → ef e = true → ef e' = true → bit (Region.before ops) e' e = true
  ford : ∀ i e, i < n → e < n → fr i = true → ef e = true → i < e ∧ bit (Region.before ops) e i = true

section
variable {P : Program} {ops : Array Oper} {D : Defs} {n : Nat} {T : Nat → List Value} {H : Nat → Heap} {v : Nat → Value} {ef fr : Nat → Bool} {ob : Nat → AObj}

theorem Tr.range (tr : Tr P ops D n T H v ef fr ob) {k : Nat} : ∀ i, k ≤ i → i ≤ n → (∀ j, k ≤ j → j < i → ef j = false ∧ fr j = false) → H i = H k
  | 0, hk, _, _ => by rw [show k = 0 by omega]
  | i + 1, hk, hi, h => by
    by_cases e : k = i + 1
    · rw [e]
    · rw [tr.same i (by omega) (h i (by omega) (by omega)).1 (h i (by omega) (by omega)).2]
      exact tr.range i (by omega) (by omega) fun j h1 h2 => h j h1 (by omega)

theorem Tr.first (tr : Tr P ops D n T H v ef fr ob) (hn : n ≤ ops.size) : ∀ i, i ≤ n → (∀ e, e < i → ef e = false) → hs (H 0) fr ob (fun _ => true) i = H i
  | 0, _, _ => rfl
  | i + 1, hi, h => by
    have ih := tr.first hn i (by omega) fun e he => h e (by omega)
    simp only [hs, if_true]
    have ho : ops[i]? = some ops[i] := Array.getElem?_eq_getElem (by omega)
    cases hf : fr i with
    | true => rw [if_pos rfl, ih, (tr.fresh i _ (by omega) ho hf).2.1]
    | false => rw [if_neg (by simp), ih, tr.same i (by omega) (h i (by omega)) hf]

theorem Tr.id_eq (tr : Tr P ops D n T H v ef fr ob) (hn : n ≤ ops.size) {i : Nat} (hi : i < n) (hf : fr i = true) : hs (H 0) fr ob (fun _ => true) i = H i :=
  tr.first hn i (by omega) fun e he => by
    cases hfe : ef e with
    | false => rfl
    | true => have := (tr.ford i e hi (by omega) hf hfe).1; omega

theorem Tr.sub (tr : Tr P ops D n T H v ef fr ob) (hn : n ≤ ops.size) : ∀ i, i ≤ n → ∀ S, (H 0).sub (hs (H 0) fr ob S i)
  | 0, _, S => fun _ _ => rfl
  | i + 1, hi, S => by
    have ih := tr.sub hn i (by omega)
    have ho : ops[i]? = some ops[i] := Array.getElem?_eq_getElem (by omega)
    intro x hx
    simp only [hs]
    split
    · rename_i hf
      split
      · rw [Heap.get_push, if_neg]
        · exact ih S x hx
        · intro e
          have h1 := (tr.fresh i _ (by omega) ho hf).2.2.2
          rw [← tr.id_eq hn (by omega) hf, hs_next (S' := S), e, ih _ x hx] at h1
          exact hx h1
      · exact ih S x hx
    · exact ih S x hx

def InvD (P : Program) (B n : Nat) (H : Nat → Heap) (ef fr : Nat → Bool) (ob : Nat → AObj) (E : Env) (S : Nat → Bool) (w : World) : Prop :=
  (lastE ef S n = 0 → HRel P B E (hs (H 0) fr ob S n) w ∧ ∀ f, f < n → fr f = true → S f = false → E (hs (H 0) fr ob (fun _ => true) f).next = none) ∧
  (∀ k, lastE ef S n = k + 1 → HRel P B E (H (k + 1)) w)

theorem Tr.any (tr : Tr P ops D ops.size T H v ef fr ob) (hok : RegOK ops) {Q : Exit → Act → World → Prop} {B : Nat} {rd : Option Nat} {n : Nat} (hk : ∀ (i : Nat) (o : Oper), ops[i]? = some o → OkO rd o) (E0 : Env) (w0 : World)
    (hQ : ∀ E a w, E0.le E → HRel P B E (H ops.size) w → TRel E (T ops.size) a.tmps → DsRel E D a.defers → Below B w0 w → Q .normal a w) :
    ∀ (fuel : Nat) (listed : Array Bool) (E : Env) (a : Act) (w : World), listed.size = ops.size → (List.range ops.size).countP (fun j => !listed.getD j false) = fuel →
      (∀ i, listed.getD i false = true → ∀ j, bit (Region.before ops) i j = true → listed.getD j false = true) →
      a.tmps.size = (T 0).length → (∀ t, VRel E (valOf ops v (T 0) (listed.getD · false) ops.size t) (a.tmps.getD t undef)) →
      InvD P B ops.size H ef fr ob E (listed.getD · false) w → DsRel E D a.defers → E0.le E → Below B w0 w → wpAnyIn (FR rd) n P .any ops Q fuel listed a w := by
  have hN : ops.size ≤ ops.size := Nat.le_refl _
  refine wpAny_of_inv tr.f hok (InvD P B ops.size H ef fr ob) E0 w0 ?_ ?_ ?_ ?_
  · intro E S S' w hS ⟨h1, h2⟩
    have e1 : lastE ef S ops.size = lastE ef S' ops.size := lastE_congr fun e he _ => hS e he
    have e2 : hs (H 0) fr ob S ops.size = hs (H 0) fr ob S' ops.size := hs_congr _ fun j hj _ => hS j hj
    refine ⟨fun h => ?_, fun k hk => h2 k (e1.trans hk)⟩
    obtain ⟨h3, h4⟩ := h1 (e1.trans h)
    exact ⟨e2 ▸ h3, fun f hf hff hfs => h4 f hf hff (by rw [hS f hf]; exact hfs)⟩
  · intro E a w hle ⟨h1, h2⟩ ht hD hb
    refine hQ E a w hle ?_ ht hD hb
    rcases lastE_spec ef (fun _ => true) ops.size with h | ⟨e, h, he, _, hfe⟩
    · have := (h1 h).1
      rw [tr.first hN ops.size hN] at this
      · exact this
      · intro e he
        cases hfe : ef e with
        | false => rfl
        | true => have := lastE_max ef (fun _ => true) ops.size e he rfl hfe; omega
    · have := h2 e h
      rw [tr.range (k := e + 1) ops.size (by omega) hN]
      · exact this
      · intro j hj1 hj2
        refine ⟨?_, ?_⟩
        · cases hfj : ef j with
          | false => rfl
          | true => have := lastE_max ef (fun _ => true) ops.size j hj2 rfl hfj; omega
        · cases hfj : fr j with
          | false => rfl
          | true => have := (tr.ford j e hj2 he hfj hfe).1; omega
  · intro E S w i o hi ho hw hni ⟨h1, h2⟩
    obtain ⟨k1, k2⟩ := tr.skip i o hi ho hw
    have e1 : lastE ef (fun j => if j = i then true else S j) ops.size = lastE ef S ops.size := lastE_congr fun e he hfe => by
      rw [if_neg (fun h => by subst h; rw [k1] at hfe; cases hfe)]
    have e2 : hs (H 0) fr ob (fun j => if j = i then true else S j) ops.size = hs (H 0) fr ob S ops.size := hs_congr _ fun j hj hfj => by
      rw [if_neg (fun h => by subst h; rw [k2] at hfj; cases hfj)]
    refine ⟨fun h => ?_, fun k hk => h2 k (e1.symm.trans hk)⟩
    obtain ⟨h3, h4⟩ := h1 (e1.symm.trans h)
    rw [e2]
    refine ⟨h3, fun f hf hff hfs => h4 f hf hff ?_⟩
    simp only at hfs
    split at hfs
    · cases hfs
    · exact hfs
  · intro E S w i o a hi ho hw hni hpre hpost ⟨h1, h2⟩ hr hD K hK
    cases hfi : fr i with
    | true =>
      obtain ⟨k1, k2, k3, k4⟩ := tr.fresh i o hi ho hfi
      have hz : lastE ef S ops.size = 0 := by
        rcases lastE_spec ef S ops.size with h | ⟨e, h, he, hSe, hfe⟩
        · exact h
        · have := (tr.ford i e hi he hfi hfe).2
          rw [hpost e hSe] at this; cases this
      obtain ⟨h3, h4⟩ := h1 hz
      have hnx := tr.id_eq hN hi hfi
      have hEn := h4 i hi hfi hni
      rw [hnx] at hEn
      obtain ⟨v', w', l, hx, hbl, hbe, hv, hor⟩ := k3 _ (tr.sub hN ops.size hN S) B E a w h3 hr hEn
      have hlt : (H i).next < (hs (H 0) fr ob S ops.size).next := by
        rw [← hnx, hs_next (S' := S)]; exact hs_lt hi hfi
      have hfill := h3.fill (id := (H i).next) l hEn hlt hbl hbe.size (fun k hk => hbe.block k hk) hor
      refine wpIn_FR (hk i o ho) hx ?_
      refine hK (E.add (H i).next l) v' _ a.defers (Env.le_add hEn) ⟨fun _ => ⟨?_, ?_⟩, fun k hk => ?_⟩ hv ?_ (hD.mono (Env.le_add hEn))
      · refine hfill.ext (Nat.le_of_eq ?_) fun x => ?_
        · show (hs (H 0) fr ob S ops.size).next = _
          exact hs_next _
        · rw [hs_set hfi hni (S' := fun j => if j = i then true else S j) (by simp) (fun j hj => by simp [hj]) ops.size hi x, Heap.get_put, hnx]
      · intro f hf hff hfs
        simp only at hfs
        split at hfs
        · cases hfs
        · rename_i hne
          have := h4 f hf hff hfs
          unfold Env.add
          rw [if_neg]
          · exact this
          · rw [← hnx]
            intro e
            rcases Nat.lt_or_ge f i with hl | hl
            · have := hs_lt (H0 := H 0) (ob := ob) (S := fun _ => true) hl hff; omega
            · have := hs_lt (H0 := H 0) (ob := ob) (S := fun _ => true) (show i < f by omega) hfi; omega
      · exfalso
        rw [lastE_congr (S' := S) (fun e he hfe => by rw [if_neg (fun h => by subst h; rw [k1] at hfe; cases hfe)]), hz] at hk
        cases hk
      · exact hbe.mono h3.base
    | false =>
    cases hei : ef i with
    | true =>
      have hdo := tr.eff i o hi ho hei
      have hH : HRel P B E (H i) w := by
        rcases lastE_spec ef S ops.size with h | ⟨e, h, he, hSe, hfe⟩
        · have hno : ∀ e, e < i → ef e = false := fun e he => by
            cases hfe : ef e with
            | false => rfl
            | true =>
              have := lastE_max ef S ops.size e (by omega) (hpre e (tr.chain e i he hi hfe hei)) hfe
              omega
          have := (h1 h).1
          rw [hs_congr (S' := fun _ => true) ops.size (fun j hj hfj => hpre j (tr.ford j i hj hi hfj hei).2), hs_cut (i := i) ops.size (by omega) (fun j hj1 hj2 => ?_), tr.first hN i (by omega) hno] at this
          · exact this
          · cases hfj : fr j with
            | false => rfl
            | true => have := (tr.ford j i hj2 hi hfj hei).1; omega
        · have := h2 e h
          have hlt : e < i := by
            rcases Nat.lt_trichotomy e i with hl | hl | hl
            · exact hl
            · subst hl; rw [hni] at hSe; cases hSe
            · have h3 := tr.chain i e hl he hei hfe
              rw [hpost e hSe] at h3; cases h3
          rw [tr.range (k := e + 1) i (by omega) (by omega)]
          · exact this
          · intro j hj1 hj2
            refine ⟨?_, ?_⟩
            · cases hfj : ef j with
              | false => rfl
              | true =>
                have := lastE_max ef S ops.size j (by omega) (hpre j (tr.chain j i hj2 hi hfj hei)) hfj
                omega
            · cases hfj : fr j with
              | false => rfl
              | true => have := (tr.ford j e (by omega) he hfj hfe).1; omega
      refine hdo B E a w rd n (hk i o ho) hH hD hr K Q fun E' v' w' ds' g1 g2 g3 g4 g5 => hK E' v' w' ds' g1 ?_ g3 g4 g5
      have hl : lastE ef (fun j => if j = i then true else S j) ops.size = i + 1 := lastE_is (by simp) hei hi fun e he1 he2 hfe => by
        rw [if_neg (by omega)]
        cases hSe : S e with
        | false => rfl
        | true => have h3 := tr.chain i e he1 he2 hei hfe; rw [hpost e hSe] at h3; cases h3
      refine ⟨fun h => ?_, fun k hk => ?_⟩
      · rw [hl] at h; cases h
      · rw [hl] at hk
        cases hk
        exact g2
    | false =>
      have e1 : lastE ef (fun j => if j = i then true else S j) ops.size = lastE ef S ops.size := lastE_congr fun e he hfe => by
        rw [if_neg (fun h => by subst h; rw [hei] at hfe; cases hfe)]
      have e2 : hs (H 0) fr ob (fun j => if j = i then true else S j) ops.size = hs (H 0) fr ob S ops.size := hs_congr _ fun j hj hfj => by
        rw [if_neg (fun h => by subst h; rw [hfi] at hfj; cases hfj)]
      have hq := tr.quiet i o (lastE ef S ops.size) hi ho hw hei hfi (lastE_le _ _ _) ((lastE_spec ef S ops.size).imp id fun ⟨e, h, _, _, h4⟩ => ⟨e, h, h4⟩)
        (fun e he hfe hb => lastE_max ef S ops.size e he (hpre e hb) hfe) (fun e he => by
          rcases lastE_spec ef S ops.size with h | ⟨e', h, he', hSe, hfe⟩
          · omega
          · have : e = e' := by omega
            subst this
            exact hpost e hSe)
      rcases lastE_spec ef S ops.size with h | ⟨e, h, he, hSe, hfe⟩
      · rw [h] at hq
        obtain ⟨h3, h4⟩ := h1 h
        refine (hq _ (tr.sub hN ops.size hN S)) B E a w rd n (hk i o ho) h3 hr K Q fun v' w' x2 x3 => ?_
        refine hK E v' w' a.defers (.refl E) ⟨fun _ => ⟨by rw [e2]; exact h3.kept x3, ?_⟩, fun k hk => ?_⟩ x2 (x3.mono h3.base) hD
        · intro f hf hff hfs
          refine h4 f hf hff ?_
          simp only at hfs
          split at hfs
          · cases hfs
          · exact hfs
        · rw [e1, h] at hk; cases hk
      · rw [h] at hq
        refine SDoes.of_quiet D hq.here B E a w rd n (hk i o ho) (h2 e h) hD hr K Q fun E' v' w' ds' g1 g2 g3 g4 g5 => ?_
        refine hK E' v' w' ds' g1 ⟨fun h' => ?_, fun k hk => ?_⟩ g3 g4 g5
        · rw [e1, h] at h'; cases h'
        · rw [e1, h] at hk
          cases hk
          exact g2
end
end Go.Abs

namespace Go.Abs
open Go.RowKit (Below)

structure Rd where
  i : Nat
  o : Oper
  T : List Value
  v : Value

/-- A region that draws its order, walked in the order of the text; what is asked beside it makes every other order come to the same. -/
def DRun (P : Program) (ops : Array Oper) (bs : Array Nat) (D : Defs) : List Oper → Nat → List Value → Heap → Heap → List (Nat × Heap) → List Rd → List Nat → (List Value → Heap → Prop) → Prop
  | [], _, T, _, H, _, _, _, K => K T H
  | o :: rest, i, T, G, H, past, reads, fs, K => okOper ops T o = true ∧ (∀ d, o.dst = some d → d < T.length) ∧
      ((wantedT ops o (T.getD · undef) = true ∧ ∃ v, SPure P o (ev T) v ∧ DRun P ops bs D rest (i + 1) (putA T o.dst v) G H past reads fs K) ∨
       (wantedT ops o (T.getD · undef) = true ∧ ∃ v, SQuietM P o (ev T) G v ∧ (∀ p ∈ past, bit bs i p.1 = false → SQuietM P o (ev T) p.2 v) ∧ DRun P ops bs D rest (i + 1) (putA T o.dst v) G H past (⟨i, o, T, v⟩ :: reads) fs K) ∨
       (wantedT ops o (T.getD · undef) = true ∧ ∃ v H', SDoes P o (ev T) H D v H' D ∧ (∀ p ∈ past, bit bs i p.1 = true) ∧ (∀ j ∈ fs, bit bs i j = true) ∧ (∀ r ∈ reads, bit bs i r.i = false → SQuietM P r.o (ev r.T) H' r.v) ∧
          DRun P ops bs D rest (i + 1) (putA T o.dst v) H' H' ((i, G) :: past) reads fs K) ∨
       (wantedT ops o (T.getD · undef) = true ∧ past = [] ∧ ∃ v ob, SFresh P o (ev T) G H.next v ob ∧ H.get H.next = .dead ∧
          DRun P ops bs D rest (i + 1) (putA T o.dst v) G (H.push ob) past reads (i :: fs) K) ∨
       (wantedT ops o (T.getD · undef) = false ∧ DRun P ops bs D rest (i + 1) (putA T o.dst undef) G H past reads fs K))

def upd {α : Type} (f : Nat → α) (k : Nat) (x : α) : Nat → α := fun j => if j = k then x else f j
theorem upd_eq {α : Type} (f : Nat → α) (k : Nat) (x : α) : upd f k x k = x := by simp [upd]
theorem upd_ne {α : Type} (f : Nat → α) {k j : Nat} (x : α) (h : j ≠ k) : upd f k x j = f j := by simp [upd, h]

theorem Fr.extend {ops : Array Oper} {i : Nat} {T : Nat → List Value} {v : Nat → Value} (tr : Fr ops i T v) (o : Oper) (ho : ops[i]? = some o) (x : Value) (hok : okOper ops (T i) o = true) (hdst : ∀ d, o.dst = some d → d < (T 0).length)
    (hskip : wantedT ops o ((T i).getD · undef) = false → x = undef) : Fr ops (i + 1) (upd T (i + 1) (putA (T i) o.dst x)) (upd v i x) := by
  have hT : ∀ j, j ≤ i → upd T (i + 1) (putA (T i) o.dst x) j = T j := fun j hj => upd_ne _ _ (by omega)
  have hV : ∀ j, j < i → upd v i x j = v j := fun j hj => upd_ne _ _ (by omega)
  have hcase : ∀ j, j < i + 1 → j < i ∨ j = i := fun j hj => by omega
  refine ⟨?_, ?_, ?_, ?_⟩
  · intro j oj hj hoj
    rcases hcase j hj with h | rfl
    · rw [hT j (by omega)]; exact tr.ok j oj h hoj
    · rw [ho] at hoj; cases hoj; rw [hT j (Nat.le_refl _)]; exact hok
  · intro j oj d hj hoj hd
    rw [hT 0 (Nat.zero_le _)]
    rcases hcase j hj with h | rfl
    · exact tr.dst j oj d h hoj hd
    · rw [ho] at hoj; cases hoj; exact hdst d hd
  · intro j oj hj hoj
    rcases hcase j hj with h | rfl
    · rw [hT (j + 1) (by omega), hT j (by omega), hV j h]; exact tr.tmp j oj h hoj
    · rw [ho] at hoj; cases hoj; rw [upd_eq, upd_eq, hT j (Nat.le_refl _)]
  · intro j oj hj hoj hw
    rcases hcase j hj with h | rfl
    · rw [hT j (by omega)] at hw; rw [hV j h]; exact tr.skip j oj h hoj hw
    · rw [ho] at hoj; cases hoj; rw [hT j (Nat.le_refl _)] at hw; rw [upd_eq]; exact hskip hw

theorem Tr.extend {P : Program} {ops : Array Oper} {D : Defs} {i : Nat} {T : Nat → List Value} {H : Nat → Heap} {v : Nat → Value} {ef fr : Nat → Bool} {ob : Nat → AObj} (tr : Tr P ops D i T H v ef fr ob) (o : Oper) (ho : ops[i]? = some o) (x : Value) (b c : Bool) (H1 : Heap) (ox : AObj)
    (hok : okOper ops (T i) o = true) (hdst : ∀ d, o.dst = some d → d < (T 0).length)
    (hskip : wantedT ops o ((T i).getD · undef) = false → x = undef ∧ b = false ∧ c = false)
    (hquiet : wantedT ops o ((T i).getD · undef) = true → b = false → c = false → ∀ k, k ≤ i → (k = 0 ∨ ∃ e, k = e + 1 ∧ ef e = true) → (∀ e, e < i → ef e = true → bit (Region.before ops) i e = true → e < k) → SQuietM P o (ev (T i)) (H k) x)
    (hsame : b = false → c = false → H1 = H i)
    (heff : b = true → SDoes P o (ev (T i)) (H i) D x H1 D)
    (hfresh : c = true → b = false ∧ H1 = (H i).push ox ∧ SFresh P o (ev (T i)) (H 0) (H i).next x ox ∧ (H i).get (H i).next = .dead ∧ ∀ e, e < i → ef e = false)
    (hlate : ∀ q oq, q < i → ops[q]? = some oq → wantedT ops oq ((T q).getD · undef) = true → b = true → ef q = false → fr q = false → bit (Region.before ops) i q = false → SQuietM P oq (ev (T q)) H1 (v q))
    (hchain : ∀ e, e < i → ef e = true → b = true → bit (Region.before ops) i e = true)
    (hford : ∀ j, j < i → fr j = true → b = true → bit (Region.before ops) i j = true) :
    Tr P ops D (i + 1) (upd T (i + 1) (putA (T i) o.dst x)) (upd H (i + 1) H1) (upd v i x) (upd ef i b) (upd fr i c) (upd ob i ox) := by
  have hT : ∀ j, j ≤ i → upd T (i + 1) (putA (T i) o.dst x) j = T j := fun j hj => upd_ne _ _ (by omega)
  have hH : ∀ j, j ≤ i → upd H (i + 1) H1 j = H j := fun j hj => upd_ne _ _ (by omega)
  have hV : ∀ j, j < i → upd v i x j = v j := fun j hj => upd_ne _ _ (by omega)
  have hE : ∀ j, j < i → upd ef i b j = ef j := fun j hj => upd_ne _ _ (by omega)
  have hF : ∀ j, j < i → upd fr i c j = fr j := fun j hj => upd_ne _ _ (by omega)
  have hO : ∀ j, j < i → upd ob i ox j = ob j := fun j hj => upd_ne _ _ (by omega)
  have hcase : ∀ j, j < i + 1 → j < i ∨ j = i := fun j hj => by omega
  refine ⟨tr.f.extend o ho x hok hdst fun h => (hskip h).1, ?_, ?_, ?_, ?_, ?_, ?_, ?_⟩
  · intro j oj hj hoj hw
    rcases hcase j hj with h | rfl
    · rw [hT j (by omega)] at hw; rw [hE j h, hF j h]; exact tr.skip j oj h hoj hw
    · rw [ho] at hoj; cases hoj; rw [hT j (Nat.le_refl _)] at hw; rw [upd_eq, upd_eq]; exact (hskip hw).2
  · intro j oj k hj hoj hw h1 h2 hk hk2 hk3 hk4
    have hk3' : ∀ e, e < i → ef e = true → bit (Region.before ops) j e = true → e < k := fun e he hfe => hk3 e (by omega) (by rw [hE e he]; exact hfe)
    rcases hcase j hj with h | rfl
    · rw [hT j (by omega)] at hw ⊢
      rw [hE j h] at h1
      rw [hF j h] at h2
      rw [hV j h]
      rcases Nat.lt_or_ge i k with hlt | hge
      · have hki : k = i + 1 := by omega
        subst hki
        rcases hk2 with hk2 | ⟨e, he, hfe⟩
        · omega
        · have : e = i := by omega
          subst this
          rw [upd_eq] at hfe
          rw [upd_eq]
          exact hlate j oj h hoj hw hfe h1 h2 (hk4 e rfl)
      · rw [hH k hge]
        refine tr.quiet j oj k h hoj hw h1 h2 hge (hk2.imp id fun ⟨e, he, hfe⟩ => ⟨e, he, by rw [hE e (by omega)] at hfe; exact hfe⟩) hk3' hk4
    · rw [ho] at hoj; cases hoj
      rw [hT j (Nat.le_refl _)] at hw ⊢
      rw [upd_eq] at h1 h2
      rw [upd_eq]
      have hkj : k ≤ j := by
        rcases Nat.lt_or_ge j k with hlt | hge
        · rcases hk2 with hk2 | ⟨e, he, hfe⟩
          · omega
          · have : e = j := by omega
            subst this
            rw [upd_eq, h1] at hfe; cases hfe
        · exact hge
      rw [hH k hkj]
      exact hquiet hw h1 h2 k hkj (hk2.imp id fun ⟨e, he, hfe⟩ => ⟨e, he, by rw [hE e (by omega)] at hfe; exact hfe⟩) hk3'
  · intro j hj h1 h2
    rcases hcase j hj with h | rfl
    · rw [hE j h] at h1; rw [hF j h] at h2; rw [hH (j + 1) (by omega), hH j (by omega)]; exact tr.same j h h1 h2
    · rw [upd_eq] at h1 h2; rw [upd_eq, hH j (Nat.le_refl _)]; exact hsame h1 h2
  · intro j oj hj hoj hq
    rcases hcase j hj with h | rfl
    · rw [hT j (by omega)]; rw [hE j h] at hq; rw [hV j h, hH j (by omega), hH (j + 1) (by omega)]; exact tr.eff j oj h hoj hq
    · rw [ho] at hoj; cases hoj; rw [hT j (Nat.le_refl _)]; rw [upd_eq] at hq; rw [upd_eq, upd_eq, hH j (Nat.le_refl _)]; exact heff hq
  · intro j oj hj hoj hq
    rcases hcase j hj with h | rfl
    · rw [hF j h] at hq; rw [hT j (by omega), hE j h, hO j h, hV j h, hH j (by omega), hH (j + 1) (by omega), hH 0 (by omega)]; exact tr.fresh j oj h hoj hq
    · rw [ho] at hoj; cases hoj
      rw [upd_eq] at hq
      rw [hT j (Nat.le_refl _), upd_eq, upd_eq, upd_eq, upd_eq, hH j (Nat.le_refl _), hH 0 (by omega)]
      obtain ⟨a1, a2, a3, a4, _⟩ := hfresh hq
      exact ⟨a1, a2, a3, a4⟩
  · intro e e' hlt he hf hf'
    rcases hcase e' he with h | rfl
    · rw [hE e (by omega)] at hf; rw [hE e' h] at hf'; exact tr.chain e e' hlt h hf hf'
    · rw [hE e hlt] at hf; rw [upd_eq] at hf'; exact hchain e hlt hf hf'
  · intro j e hj he hfj hfe
    rcases hcase j hj with h | rfl
    · rw [hF j h] at hfj
      rcases hcase e he with h' | rfl
      · rw [hE e h'] at hfe; exact tr.ford j e h h' hfj hfe
      · rw [upd_eq] at hfe; exact ⟨h, hford j h hfj hfe⟩
    · rw [upd_eq] at hfj
      obtain ⟨a1, _, _, _, a5⟩ := hfresh hfj
      rcases hcase e he with h' | rfl
      · rw [hE e h', a5 e h'] at hfe; cases hfe
      · rw [upd_eq, a1] at hfe; cases hfe

theorem tr_of_drun {P : Program} {ops : Array Oper} {D : Defs} {K : List Value → Heap → Prop} : ∀ (rest : List Oper) (i : Nat) (G : Heap) (past : List (Nat × Heap)) (reads : List Rd) (fs : List Nat) (T : Nat → List Value) (H : Nat → Heap) (v : Nat → Value) (ef fr : Nat → Bool) (ob : Nat → AObj),
    ops.toList.drop i = rest → i ≤ ops.size → Tr P ops D i T H v ef fr ob → (T i).length = (T 0).length →
    (∀ e, e < i → ef e = true → ∃ h, (e, h) ∈ past) → (∀ p ∈ past, p.1 < i) →
    (∀ k, k ≤ i → (k = 0 ∨ ∃ e, k = e + 1 ∧ ef e = true) → H k = G ∨ ∃ e, k ≤ e ∧ e < i ∧ ef e = true ∧ (e, H k) ∈ past) →
    (∀ j, j < i → fr j = true → j ∈ fs) →
    (∀ q oq, q < i → ops[q]? = some oq → wantedT ops oq ((T q).getD · undef) = true → ef q = false → fr q = false → (⟨q, oq, T q, v q⟩ : Rd) ∈ reads ∨ SPure P oq (ev (T q)) (v q)) →
    DRun P ops (Region.before ops) D rest i (T i) G (H i) past reads fs K →
    ∃ T' H' v' ef' fr' ob', Tr P ops D ops.size T' H' v' ef' fr' ob' ∧ T' 0 = T 0 ∧ H' 0 = H 0 ∧ K (T' ops.size) (H' ops.size)
  | [], i, G, past, reads, fs, T, H, v, ef, fr, ob, hd, hi, tr, hlen, hpast, hplt, hG, hfs, hreads, hrun => by
    have : i = ops.size := by
      have := congrArg List.length hd
      simp at this
      omega
    subst this
    exact ⟨T, H, v, ef, fr, ob, tr, rfl, rfl, hrun⟩
  | o :: rest, i, G, past, reads, fs, T, H, v, ef, fr, ob, hd, hi, tr, hlen, hpast, hplt, hG, hfs, hreads, hrun => by
    have hi' : i < ops.size := by
      have := congrArg List.length hd
      simp at this
      omega
    have ho : ops[i]? = some o := by
      have : (ops.toList.drop i)[0]? = some o := by rw [hd]; rfl
      simpa using this
    have hrest : ops.toList.drop (i + 1) = rest := by
      rw [← List.drop_drop, hd]; rfl
    obtain ⟨hok, hdst, hcase⟩ := hrun
    have hdst' : ∀ d, o.dst = some d → d < (T 0).length := fun d hd => by rw [← hlen]; exact hdst d hd
    -- the step, once for all ways
    have go : ∀ (x : Value) (b c : Bool) (H1 : Heap) (ox : AObj) (G' : Heap) (past' : List (Nat × Heap)) (reads' : List Rd) (fs' : List Nat),
        Tr P ops D (i + 1) (upd T (i + 1) (putA (T i) o.dst x)) (upd H (i + 1) H1) (upd v i x) (upd ef i b) (upd fr i c) (upd ob i ox) →
        (b = true → past' = (i, G) :: past ∧ G' = H1) → (b = false → past' = past ∧ G' = G) → (∀ r ∈ reads, r ∈ reads') → (∀ j ∈ fs, j ∈ fs') → (c = true → i ∈ fs') →
        (wantedT ops o ((T i).getD · undef) = true → b = false → c = false → (⟨i, o, T i, x⟩ : Rd) ∈ reads' ∨ SPure P o (ev (T i)) x) →
        DRun P ops (Region.before ops) D rest (i + 1) (putA (T i) o.dst x) G' H1 past' reads' fs' K →
        ∃ T' H' v' ef' fr' ob', Tr P ops D ops.size T' H' v' ef' fr' ob' ∧ T' 0 = T 0 ∧ H' 0 = H 0 ∧ K (T' ops.size) (H' ops.size) := by
      intro x b c H1 ox G' past' reads' fs' tr' h1 h2 h4 h7 h8 h5 h6
      have e0 : upd T (i + 1) (putA (T i) o.dst x) 0 = T 0 := upd_ne _ _ (by omega)
      have e1 : upd H (i + 1) H1 0 = H 0 := upd_ne _ _ (by omega)
      have hl2 : (putA (T i) o.dst x).length = (T i).length := by unfold putA; split <;> simp
      have hsub : ∀ p ∈ past, p ∈ past' := fun p hp => by
        cases b with
        | true => rw [(h1 rfl).1]; exact List.mem_cons_of_mem _ hp
        | false => rw [(h2 rfl).1]; exact hp
      obtain ⟨T', H', v', ef', fr', ob', k1, k2, k3, k4⟩ := tr_of_drun rest (i + 1) G' past' reads' fs' _ _ _ _ _ _ hrest (by omega) tr' (by rw [upd_eq, e0, hl2, hlen]) (fun e he hfe => by
          rcases Nat.lt_or_ge e i with h | h
          · rw [upd_ne _ _ (by omega)] at hfe; exact (hpast e h hfe).imp fun _ => hsub _
          · have : e = i := by omega
            subst this
            rw [upd_eq] at hfe
            subst hfe
            rw [(h1 rfl).1]
            exact ⟨G, List.mem_cons_self ..⟩) (fun p hp => by
          cases b with
          | true =>
            rw [(h1 rfl).1] at hp
            rcases List.mem_cons.1 hp with rfl | h
            · exact Nat.lt_succ_self _
            · exact Nat.lt_succ_of_lt (hplt p h)
          | false => rw [(h2 rfl).1] at hp; exact Nat.lt_succ_of_lt (hplt p hp)) (fun k hk hk2 => by
          rcases Nat.lt_or_ge i k with hlt | hge
          · have hki : k = i + 1 := by omega
            subst hki
            rcases hk2 with hk2 | ⟨e, he, hfe⟩
            · omega
            · have : e = i := by omega
              subst this
              rw [upd_eq] at hfe
              rw [upd_eq]
              exact .inl (h1 hfe).2.symm
          · rw [upd_ne _ _ (by omega)]
            have := hG k hge (hk2.imp id fun ⟨e, he, hfe⟩ => ⟨e, he, by rw [upd_ne _ _ (by omega)] at hfe; exact hfe⟩)
            rcases this with h | ⟨e, g1, g2, g3, g4⟩
            · cases b with
              | true => exact .inr ⟨i, hge, by omega, upd_eq .., by rw [(h1 rfl).1, h]; exact List.mem_cons_self ..⟩
              | false => exact .inl (by rw [(h2 rfl).2]; exact h)
            · exact .inr ⟨e, g1, by omega, by rw [upd_ne _ _ (by omega)]; exact g3, hsub _ g4⟩) (fun j hj hfj => by
          rcases Nat.lt_or_ge j i with h | h
          · rw [upd_ne _ _ (by omega)] at hfj; exact h7 _ (hfs j h hfj)
          · have : j = i := by omega
            subst this
            rw [upd_eq] at hfj
            exact h8 hfj) (fun q oq hq hoq hw hqf hqr => by
          rw [upd_ne _ _ (by omega)] at hw ⊢
          rcases Nat.lt_or_ge q i with h | h
          · rw [upd_ne _ _ (by omega)] at hqf hqr
            rw [upd_ne _ _ (by omega)]
            exact (hreads q oq h hoq hw hqf hqr).imp (h4 _) id
          · have : q = i := by omega
            subst this
            rw [ho] at hoq; cases hoq
            rw [upd_eq] at hqf hqr
            rw [upd_eq]
            exact h5 hw hqf hqr) (by rw [upd_eq, upd_eq]; exact h6)
      exact ⟨T', H', v', ef', fr', ob', k1, k2.trans e0, k3.trans e1, k4⟩
    rcases hcase with ⟨hw, x, hp, hnext⟩ | ⟨hw, x, hq, hpq, hnext⟩ | ⟨hw, x, H1, hdo, hpe, hfe, hre, hnext⟩ | ⟨hw, hnil, x, ox, hfr, hdead, hnext⟩ | ⟨hw, hnext⟩
    · refine go x false false (H i) .dead G past reads fs (tr.extend o ho x false false (H i) .dead hok hdst' (fun h => by rw [hw] at h; cases h) (fun _ _ _ _ _ _ _ _ _ => hp _) (fun _ _ => rfl) (fun h => by cases h) (fun h => by cases h) (fun _ _ _ _ _ h => by cases h) (fun _ _ _ h => by cases h) (fun _ _ _ h => by cases h))
        (fun h => by cases h) (fun _ => ⟨rfl, rfl⟩) (fun _ h => h) (fun _ h => h) (fun h => by cases h) (fun _ _ _ => .inr hp) hnext
    · refine go x false false (H i) .dead G past (⟨i, o, T i, x⟩ :: reads) fs (tr.extend o ho x false false (H i) .dead hok hdst' (fun h => by rw [hw] at h; cases h) (fun _ _ _ k hk hk2 hk3 => ?_) (fun _ _ => rfl) (fun h => by cases h) (fun h => by cases h) (fun _ _ _ _ _ h => by cases h) (fun _ _ _ h => by cases h) (fun _ _ _ h => by cases h))
        (fun h => by cases h) (fun _ => ⟨rfl, rfl⟩) (fun _ h => List.mem_cons_of_mem _ h) (fun _ h => h) (fun h => by cases h) (fun _ _ _ => .inl (List.mem_cons_self ..)) hnext
      rcases hG k hk hk2 with h | ⟨e, g1, g2, g3, g4⟩
      · rw [h]; exact hq
      · refine hpq (e, H k) g4 ?_
        cases hb : bit (Region.before ops) i e with
        | false => rfl
        | true => have := hk3 e g2 g3 hb; omega
    · refine go x true false H1 .dead H1 ((i, G) :: past) reads fs (tr.extend o ho x true false H1 .dead hok hdst' (fun h => by rw [hw] at h; cases h) (fun _ h => by cases h) (fun h => by cases h) (fun _ => hdo) (fun h => by cases h) (fun q oq hq hoq hwq _ hqf hqr hb => ?_) (fun e he hfe' _ => ?_) (fun j hj hfj _ => hfe j (hfs j hj hfj)))
        (fun _ => ⟨rfl, rfl⟩) (fun h => by cases h) (fun _ h => h) (fun _ h => h) (fun h => by cases h) (fun _ h => by cases h) hnext
      · rcases hreads q oq hq hoq hwq hqf hqr with h | h
        · exact hre _ h hb
        · exact fun _ _ => h _
      · obtain ⟨h, hm⟩ := hpast e he hfe'
        exact hpe _ hm
    · have hG0 : H 0 = G := by
        rcases hG 0 (Nat.zero_le _) (.inl rfl) with h | ⟨e, _, _, _, h⟩
        · exact h
        · rw [hnil] at h; cases h
      rw [← hG0] at hfr
      refine go x false true ((H i).push ox) ox G past reads (i :: fs) (tr.extend o ho x false true ((H i).push ox) ox hok hdst' (fun h => by rw [hw] at h; cases h) (fun _ _ h => by cases h) (fun _ h => by cases h) (fun h => by cases h) (fun _ => ⟨rfl, rfl, hfr, hdead, fun e he => ?_⟩) (fun _ _ _ _ _ h => by cases h) (fun _ _ _ h => by cases h) (fun _ _ _ h => by cases h))
        (fun h => by cases h) (fun _ => ⟨rfl, rfl⟩) (fun _ h => h) (fun _ h => List.mem_cons_of_mem _ h) (fun _ => List.mem_cons_self ..) (fun _ _ h => by cases h) hnext
      cases hfe : ef e with
      | false => rfl
      | true => obtain ⟨h, hm⟩ := hpast e he hfe; rw [hnil] at hm; cases hm
    · refine go undef false false (H i) .dead G past reads fs (tr.extend o ho undef false false (H i) .dead hok hdst' (fun _ => ⟨rfl, rfl, rfl⟩) (fun h => by rw [hw] at h; cases h) (fun _ _ => rfl) (fun h => by cases h) (fun h => by cases h) (fun _ _ _ _ _ h => by cases h) (fun _ _ _ h => by cases h) (fun _ _ _ h => by cases h))
        (fun h => by cases h) (fun _ => ⟨rfl, rfl⟩) (fun _ h => h) (fun _ h => h) (fun h => by cases h) (fun h => by rw [hw] at h; cases h) hnext

/-- The rule for a region that draws. -/
theorem draw_sound {P : Program} (hm : P.follows .mixedOrders = true) {id : Nat} {ops : Array Oper} (hreg : regOK ops = true) {K : List Value → Heap → Prop} {Q : Exit → Act → World → Prop} {B : Nat} {E : Env} {T : List Value} {H : Heap} {D : Defs} {a : Act} {w : World} {rd : Option Nat} {n : Nat} (hk : ∀ (i : Nat) (o : Oper), ops[i]? = some o → OkO rd o)
    (hrun : DRun P ops (Region.before ops) D ops.toList 0 T H H [] [] [] K) (hS : SRel P B E T H D a w)
    (hK : ∀ E' T' H' a' w', K T' H' → E.le E' → SRel P B E' T' H' D a' w' → Below B w w' → Q .normal a' w') : (Code.region id ops true).wpIn (FR rd) n P Q a w := by
  have tr0 : Tr P ops D 0 (fun _ => T) (fun _ => H) (fun _ => undef) (fun _ => false) (fun _ => false) (fun _ => .dead) :=
    ⟨⟨fun i o h => by omega, fun i o d h => by omega, fun i o h => by omega, fun i o h => by omega⟩, fun i o h => by omega, fun i o k h => by omega, fun i h => by omega, fun i o h => by omega, fun i o h => by omega, fun e e' h1 h => by omega, fun i e h => by omega⟩
  obtain ⟨T', H', v', ef', fr', ob', tr, h1, h2, h3⟩ := tr_of_drun ops.toList 0 H [] [] [] (fun _ => T) (fun _ => H) (fun _ => undef) (fun _ => false) (fun _ => false) (fun _ => .dead) (by simp) (Nat.zero_le _) tr0 rfl (fun e h => by omega) (fun p h => by cases h) (fun k _ _ => .inl rfl) (fun j h => by omega) (fun q oq h => by omega) hrun
  refine wpIn_region_any hm ?_
  have hrep : ∀ j, (Array.replicate ops.size false).getD j false = false := fun j => by
    simp only [Array.getD_eq_getD_getElem?, Array.getElem?_replicate]
    split <;> rfl
  have hz1 : ∀ t n, lastW ops ((Array.replicate ops.size false).getD · false) t n = none := by
    intro t n
    induction n with
    | zero => rfl
    | succ n ih => rw [lastW, if_neg (fun h => by have h1 := h.1; rw [hrep] at h1; cases h1)]; exact ih
  have hz2 : ∀ n, lastE ef' ((Array.replicate ops.size false).getD · false) n = 0 := by
    intro n
    induction n with
    | zero => rfl
    | succ n ih => rw [lastE, if_neg (fun h => by have h1 := h.1; rw [hrep] at h1; cases h1)]; exact ih
  have hcnt : (List.range ops.size).countP (fun j => !(Array.replicate ops.size false).getD j false) = ops.size := by
    rw [List.countP_eq_length.2 (fun j _ => by rw [hrep]; rfl)]
    simp
  refine tr.any (regOK_spec hreg) hk E w (fun E' a' w' k1 k2 k3 k4 k5 => hK E' _ _ a' w' h3 k1 ⟨k2, k3, k4⟩ k5) ops.size _ E a _ (by simp) hcnt (fun i hi => by rw [hrep] at hi; cases hi) (by rw [h1]; exact hS.tmps.size) (fun t => ?_) ?_ hS.defs (.refl E) (.drew (.refl B w))
  · unfold valOf
    rw [hz1, h1]
    exact hS.tmps.at_ t
  · have hheap := hS.heap.draw (w' := w.drew) rfl
    refine ⟨fun _ => ⟨?_, fun f hf hff _ => ?_⟩, fun k hk => by rw [hz2] at hk; cases hk⟩
    · rw [hs_congr (S' := fun _ => false) _ (fun j _ _ => hrep j)]
      refine HRel.ext (H := H) hheap ?_ fun x => ?_
      · have := hs_mono (H0 := H' 0) (fr := fr') (ob := ob') (S := fun _ => false) ops.size 0 (Nat.zero_le _)
        simpa [hs, h2] using this
      · rw [hs_none, h2]
    · cases hE : E (hs (H' 0) fr' ob' (fun _ => true) f).next with
      | none => rfl
      | some l =>
        have := hS.heap.dom _ _ hE
        have h5 := hs_mono (H0 := H' 0) (fr := fr') (ob := ob') (S := fun _ => true) f 0 (Nat.zero_le _)
        simp only [hs] at h5
        rw [h2] at h5 this
        omega
end Go.Abs

namespace Go.Abs
open Go.RowKit (Below)

abbrev APost := Exit → List Value → Heap → Defs → Prop

/-- Code without a defer statement. -/
def noDef : Code → Bool
  | .region _ ops _ => ops.all fun o => !isDefer o.op
  | .seq a b => noDef a && noDef b
  | .cond _ a b => noDef a && noDef b
  | .block _ a => noDef a
  | .loop a => noDef a
  | .scope _ => false
  | .rangeFunc .. => false
  | _ => true
def OkC (rd : Option Nat) (c : Code) : Prop := rd = none ∨ noDef c = true
theorem OkC.region {rd : Option Nat} {id : Nat} {ops : Array Oper} {d : Bool} (h : OkC rd (.region id ops d)) : ∀ (i : Nat) (o : Oper), ops[i]? = some o → OkO rd o := by
  intro i o ho
  rcases h with h | h
  · exact .inl h
  · obtain ⟨hi, hx⟩ := Array.getElem?_eq_some_iff.1 ho
    have := Array.all_eq_true.1 h i hi
    rw [hx] at this
    exact .inr (by simpa using this)
theorem OkC.seq1 {rd : Option Nat} {x y : Code} (h : OkC rd (.seq x y)) : OkC rd x := h.imp id fun h => by simp only [noDef, Bool.and_eq_true] at h; exact h.1
theorem OkC.seq2 {rd : Option Nat} {x y : Code} (h : OkC rd (.seq x y)) : OkC rd y := h.imp id fun h => by simp only [noDef, Bool.and_eq_true] at h; exact h.2
theorem OkC.cond {rd : Option Nat} {o : Operand} {x y : Code} (b : Bool) (h : OkC rd (.cond o x y)) : OkC rd (bif b then x else y) := h.imp id fun h => by
  simp only [noDef, Bool.and_eq_true] at h
  cases b
  · exact h.2
  · exact h.1
theorem OkC.block {rd : Option Nat} {id : Nat} {x : Code} (h : OkC rd (.block id x)) : OkC rd x := h
theorem OkC.loop {rd : Option Nat} {x : Code} (h : OkC rd (.loop x)) : OkC rd x := h

/-- What a piece of code comes to, on abstract states. -/
def Awp (P : Program) (c : Code) (Q : APost) (T : List Value) (H : Heap) (D : Defs) : Prop :=
  ∀ (B : Nat) (E : Env) (a : Act) (w : World) (rd : Option Nat) (n : Nat), OkC rd c → SRel P B E T H D a w →
    c.wpIn (FR rd) n P (fun ex a' w' => ∃ E' T' H' D', Q ex T' H' D' ∧ E.le E' ∧ SRel P B E' T' H' D' a' w' ∧ Below B w w') a w

section
variable {P : Program} {Q : APost} {T : List Value} {H : Heap} {D : Defs}

theorem awp_mono {c : Code} {Q' : APost} (h : Awp P c Q T H D) (hq : ∀ e T H D, Q e T H D → Q' e T H D) : Awp P c Q' T H D :=
  fun B E a w rd n hk hS => wpIn_mono (h B E a w rd n hk hS) fun e _ _ ⟨E', T', H', D', h1, h2⟩ => ⟨E', T', H', D', hq _ _ _ _ h1, h2⟩

theorem awp_skip (h : Q .normal T H D) : Awp P .skip Q T H D := fun B E a w rd n hk hS => wpIn_skip ⟨E, T, H, D, h, .refl E, hS, .refl B w⟩
theorem awp_exit {id : Nat} (h : Q (.exit id) T H D) : Awp P (.exit id) Q T H D := fun B E a w rd n hk hS => wpIn_exit ⟨E, T, H, D, h, .refl E, hS, .refl B w⟩
theorem awp_ret (h : Q .ret T H D) : Awp P .ret Q T H D := fun B E a w rd n hk hS => wpIn_ret ⟨E, T, H, D, h, .refl E, hS, .refl B w⟩

theorem awp_region {id : Nat} {ops : Array Oper} (h : Run P ops ops.toList T H D (Q .normal)) : Awp P (.region id ops false) Q T H D := by
  intro B E a w rd n hk hS
  refine wpIn_region ?_
  have := run_sound (n := n) hk.region (K := Q .normal) (Q := fun ex a' w' => ∃ E' T' H' D', Q ex T' H' D' ∧ E.le E' ∧ SRel P B E' T' H' D' a' w' ∧ Below B w w') ops.toList 0 T H D E a w (by simp) h hS
    (fun E' T' H' D' a' w' k1 k2 k3 k4 => ⟨E', T', H', D', k1, k2, k3, k4⟩)
  rw [List.range_eq_range']
  simpa using this

theorem awp_draw (hm : P.follows .mixedOrders = true) {id : Nat} {ops : Array Oper} (hreg : regOK ops = true) (h : DRun P ops (Region.before ops) D ops.toList 0 T H H [] [] [] (fun T' H' => Q .normal T' H' D)) : Awp P (.region id ops true) Q T H D :=
  fun _ _ _ _ _ _ hk hS => draw_sound hm hreg hk.region h hS fun E' T' H' _ _ k1 k2 k3 k4 => ⟨E', T', H', D, k1, k2, k3, k4⟩

def thenA (next : List Value → Heap → Defs → Prop) (Q : APost) : APost
  | .normal, T, H, D => next T H D
  | e, T, H, D => Q e T H D

theorem awp_seq {x y : Code} (h : Awp P x (thenA (Awp P y Q) Q) T H D) : Awp P (.seq x y) Q T H D := by
  intro B E a w rd n hk hS
  refine wpIn_seq (wpIn_mono (h B E a w rd n hk.seq1 hS) ?_)
  rintro e a' w' ⟨E', T', H', D', h1, h2, h3, h4⟩
  cases e with
  | normal =>
    refine wpIn_mono (h1 B E' a' w' rd n hk.seq2 h3) ?_
    rintro e2 a2 w2 ⟨E2, T2, H2, D2, k1, k2, k3, k4⟩
    exact ⟨E2, T2, H2, D2, k1, h2.trans k2, k3, h4.trans k4⟩
  | _ => exact ⟨E', T', H', D', h1, h2, h3, h4⟩

theorem awp_cond {c : Operand} {x y : Code} {b : Bool} (hok : okOperand c = true) (hc : ev T c = .bool b) (h : Awp P (bif b then x else y) Q T H D) : Awp P (.cond c x y) Q T H D := by
  intro B E a w rd n hk hS
  have hr := ev_rel hS.tmps.at_ c hok
  rw [hc] at hr
  have he : a.eval c = .bool b := by
    generalize a.eval c = u at hr
    cases hr; rfl
  refine wpIn_cond he ?_
  have hk := hk.cond b
  cases b <;> exact h B E a w rd n hk hS

def inBlockA (id : Nat) (Q : APost) : APost
  | .exit id', T, H, D => if id' = id then Q .normal T H D else Q (.exit id') T H D
  | e, T, H, D => Q e T H D

theorem awp_block {id : Nat} {c : Code} (h : Awp P c (inBlockA id Q) T H D) : Awp P (.block id c) Q T H D := by
  intro B E a w rd n hk hS
  refine wpIn_block (wpIn_mono (h B E a w rd n hk.block hS) ?_)
  rintro e a' w' ⟨E', T', H', D', h1, h2, h3, h4⟩
  cases e with
  | exit id' =>
    simp only [inBlockA, Exit.inBlock] at h1 ⊢
    split
    · rename_i e; rw [if_pos e] at h1; exact ⟨E', T', H', D', h1, h2, h3, h4⟩
    · rename_i e; rw [if_neg e] at h1; exact ⟨E', T', H', D', h1, h2, h3, h4⟩
  | _ => exact ⟨E', T', H', D', h1, h2, h3, h4⟩

theorem rounds_mono {F : Fence} {z : Nat} {c : Code} {R : Exit → Act → World → Prop} : ∀ {n m : Nat}, n ≤ m → ∀ {a : Act} {w : World}, Code.roundsIn F z P c R n a w → Code.roundsIn F z P c R m a w
  | 0, _, _, _, _, h => h.elim
  | n + 1, 0, hl, _, _, _ => by omega
  | n + 1, m + 1, hl, a, w, h => by
    refine wpIn_mono h ?_
    intro e a' w' he
    cases e with
    | normal => exact rounds_mono (by omega) he
    | _ => exact he

/-- A loop: what holds at each round's head, with a number that goes down. -/
theorem awp_loop {c : Code} (I : Nat → List Value → Heap → Defs → Prop) (n : Nat) (h0 : I n T H D)
    (round : ∀ n T H D, I n T H D → Awp P c (thenA (fun T' H' D' => ∃ m, m < n ∧ I m T' H' D') Q) T H D) : Awp P (.loop c) Q T H D := by
  intro B E a w rd z hk hS
  refine wpIn_loop_rounds (n + 1) ?_
  have key : ∀ n T H D E' a' w', I n T H D → E.le E' → SRel P B E' T H D a' w' → Below B w w' →
      Code.roundsIn (FR rd) z P c (fun ex a' w' => ∃ E' T' H' D', Q ex T' H' D' ∧ E.le E' ∧ SRel P B E' T' H' D' a' w' ∧ Below B w w') (n + 1) a' w' := by
    intro n
    induction n using Nat.strongRecOn with
    | _ n ih =>
      intro T H D E' a' w' hI hle hS' hb
      rw [roundsIn_succ]
      refine wpIn_mono (round n T H D hI B E' a' w' rd z hk.loop hS') ?_
      rintro e a2 w2 ⟨E2, T2, H2, D2, k1, k2, k3, k4⟩
      cases e with
      | normal =>
        obtain ⟨m, hm, hI2⟩ := k1
        exact rounds_mono (by omega) (ih m hm T2 H2 D2 E2 a2 w2 hI2 (hle.trans k2) k3 (hb.trans k4))
      | _ => exact ⟨E2, T2, H2, D2, k1, hle.trans k2, k3, hb.trans k4⟩
  exact key n T H D E a w h0 (.refl E) hS (.refl B w)
end

/-- A deferred function that only looks whether there is a panic: nothing happens where there is none. -/
def quietDefer (P : Program) (f : FuncId) : Bool :=
  bif Nat.beq f markF then false else
  match P.funcs[f]? with
  | some fn => fn.results.isEmpty && match fn.body with
    | some (.region _ ops false) => match ops.toList with
      | [o] => (match o.op with | .call c => (match c.callee with | .builtin .recover => c.args.isEmpty | _ => false) | _ => false) && o.guard.isNone
      | _ => false
    | some (.seq (.region _ ops false) (.cond (.tmp t2) _ .skip)) => match ops.toList with
      | [o, o2] => (match o.op with | .call c => (match c.callee with | .builtin .recover => c.args.isEmpty | _ => false) | _ => false) && o.guard.isNone && o2.guard.isNone && o2.dst == some t2 && Nat.blt t2 fn.ntmps &&
          (match o.dst, o2.op with
           | some t1, .binOp .neq ti (.tmp t1') (.const .nilIface) _ => t1 == t1' && Nat.blt t1 fn.ntmps && (match P.underlying ti with | some (.interface _) => true | _ => false)
           | _, _ => false)
      | _ => false
    | _ => false
  | none => false
end Go.Abs

namespace Go.Abs
open Go.RowKit (Below)

theorem run_recover (ρ : Operand → Value) (o : Oper) {c : Call} (ho : o.op = .call c) (hc : c.callee = .builtin .recover) (P : Program) (w : World) : (execOp ρ o).run P w = .ok .recover w := by
  simp [execOp, ho, resolve, hc, invoke, builtin]

theorem recoverD_returning (c₀ : Frame) (cs : List Frame) (h : c₀.mode = .returning) : recoverD (c₀ :: cs) = none := by
  simp [recoverD, h]

theorem results_none {P : Program} {fn : Func} (h : fn.results = #[]) (tmps : Array Value) (w : World) : (results fn tmps).run P w = .ok (.tuple #[]) w := by
  simp [results, h]

theorem quietDefer_sound {P : Program} {f : FuncId} (h : quietDefer P f = true) (args : Array Value) (w : World) :
    CallsD P f args .returning w fun e u' w' => (∃ v, e = .returned v) ∧ u' = .returning ∧ w' = w := by
  unfold quietDefer at h
  cases hmk : Nat.beq f markF with
  | true => rw [hmk] at h; cases h
  | false =>
  rw [hmk] at h
  simp only [cond_false] at h
  cases hf : P.funcs[f]? with
  | none => simp [hf] at h
  | some fn =>
  simp only [hf, Bool.and_eq_true] at h
  obtain ⟨hres, h⟩ := h
  have hres : fn.results = #[] := by simpa using hres
  split at h
  · rename_i id ops hb
    split at h
    case h_2 => cases h
    rename_i o hl
    have hops : ops = #[o] := by rw [← Array.toArray_toList (xs := ops), hl]
    subst hops
    simp only [Bool.and_eq_true] at h
    obtain ⟨h, hg⟩ := h
    have hg : o.guard = none := by simpa using hg
    split at h
    case h_2 => cases h
    rename_i c ho
    split at h
    case h_2 => cases h
    rename_i hc
    refine callsD_of_wpS hf hb fun c₀ cs hm => wpS_region ?_
    have hr := run_recover (P := P) (w := w) (Act.eval { tmps := args ++ Array.replicate (fn.ntmps - args.size) undef, defers := [] }) o ho hc
    simp only [List.size_toArray, List.length_cons, List.length_nil, Nat.zero_add, List.range_succ, List.range_zero, List.nil_append, wpOpsS, List.getElem?_toArray, List.getElem?_cons_zero, Region.wanted, hg, if_true, hr, recoverD_returning c₀ cs hm]
    refine ⟨by rw [put_defers'], .returning, ?_, .tuple #[], results_none hres _ w, ⟨_, rfl⟩, rfl, rfl⟩
    rw [← hm]
  · rename_i id ops t2 X hb
    split at h
    case h_2 => cases h
    rename_i o o2 hl
    have hops : ops = #[o, o2] := by rw [← Array.toArray_toList (xs := ops), hl]
    subst hops
    simp only [Bool.and_eq_true] at h
    obtain ⟨⟨⟨⟨⟨h, hg⟩, hg2⟩, hd2⟩, ht2⟩, h2⟩ := h
    have hg : o.guard = none := by simpa using hg
    have hg2 : o2.guard = none := by simpa using hg2
    have hd2 : o2.dst = some t2 := by simpa using hd2
    have ht2 : t2 < fn.ntmps := by simpa [Nat.blt_eq] using ht2
    split at h
    case h_2 => cases h
    rename_i c ho
    split at h
    case h_2 => cases h
    rename_i hc
    split at h2
    case h_2 => cases h2
    rename_i t1 ti t1' yt hd1 ho2
    simp only [Bool.and_eq_true] at h2
    obtain ⟨⟨he, ht1⟩, hi⟩ := h2
    have he : t1 = t1' := by simpa using he
    subst he
    have ht1 : t1 < fn.ntmps := by simpa [Nat.blt_eq] using ht1
    obtain ⟨ms, hi⟩ : ∃ ms, P.underlying ti = some (.interface ms) := by
      cases hu : P.underlying ti with
      | none => simp [hu] at hi
      | some d => cases d <;> simp [hu] at hi; exact ⟨_, rfl⟩
    refine callsD_of_wpS hf hb fun c₀ cs hm => wpS_seq (wpS_region ?_)
    generalize ha : ({ tmps := args ++ Array.replicate (fn.ntmps - args.size) undef, defers := [] } : Act) = a
    have hsz : fn.ntmps ≤ a.tmps.size := by rw [← ha]; simp; omega
    have had : a.defers = [] := by rw [← ha]
    have hr := run_recover (P := P) (w := w) a.eval o ho hc
    have hev : (a.put o.dst .nilIface).eval (.tmp t1) = .nilIface := by
      rw [hd1]
      show (a.tmps.setIfInBounds t1 .nilIface).getD t1 undef = .nilIface
      rw [getD_setA _ _ _ _ (Nat.lt_of_lt_of_le ht1 hsz), if_pos rfl]
    have heq : (Op.equal ti .nilIface .nilIface).run P w = .ok true w := by
      rw [Op.equal, show Op.maxDepth = 9999 + 1 from rfl, Op.equalIn]; simp only [Sem.run_bind, run_underlying hi, Result.andThen_ok, Sem.run_pure]
    have hr2 : (execOp (a.put o.dst .nilIface).eval o2).run P w = .ok (.value (.bool false)) w := by
      have hec : (a.put o.dst .nilIface).eval (.const .nilIface) = .nilIface := rfl
      simp only [execOp, ho2, hev, hec, eqGuard_nil_constR, binOp, Sem.run_bind, Sem.run_pure, Result.andThen_ok, heq, Bool.not_true]
    simp only [List.size_toArray, List.length_cons, List.length_nil, Nat.zero_add, List.range_succ, List.range_zero, List.nil_append, List.cons_append, Nat.reduceAdd, wpOpsS, List.getElem?_toArray, List.getElem?_cons_zero, List.getElem?_cons_succ, Region.wanted, hg, hg2, if_true, hr, recoverD_returning c₀ cs hm, hr2, Oper.upon_value]
    have hcnd : ((a.put o.dst .nilIface).put o2.dst (.bool false)).eval (.tmp t2) = .bool false := by
      rw [hd2]
      show ((a.put o.dst .nilIface).tmps.setIfInBounds t2 (.bool false)).getD t2 undef = .bool false
      rw [getD_setA _ _ _ _ (by rw [hd1]; simp only [Act.put, Array.size_setIfInBounds]; exact Nat.lt_of_lt_of_le ht2 hsz), if_pos rfl]
    show (Code.cond (.tmp t2) X .skip).wpS P _ _ _ _
    refine wpS_cond hcnd (wpS_of_wp (wp_skip ?_))
    refine ⟨by rw [put_defers', put_defers', had], .returning, ?_, .tuple #[], results_none hres _ w, ⟨_, rfl⟩, rfl, rfl⟩
    rw [← hm]
  · cases h

def resOne (P : Program) (T : List Value) (H : Heap) : ResultVar → Option Value
  | .tmp t => some (T.getD t undef)
  | .cell a t => match T.getD a undef with
    | .pointer (some ⟨id, off, none⟩) => loadA P H t id off
    | _ => none

def resL (P : Program) (T : List Value) (H : Heap) : List ResultVar → Option (List Value)
  | [] => some []
  | r :: rs => match resOne P T H r, resL P T H rs with
    | some v, some vs => some (v :: vs)
    | _, _ => none

def resA (P : Program) (fn : Func) (T : List Value) (H : Heap) : Option Value :=
  match resL P T H fn.results.toList with
  | some [v] => some v
  | some vs => some (.tuple vs.toArray)
  | none => none

theorem resL_sound {P : Program} {B : Nat} {E : Env} {H : Heap} {w : World} {T : List Value} {tmps : Array Value} (hH : HRel P B E H w) (hT : ∀ t, VRel E (T.getD t undef) (tmps.getD t undef)) (g : ResultVar → Sem Value)
    (hg1 : ∀ t, g (.tmp t) = pure (tmps.getD t undef)) (hg2 : ∀ a t, g (.cell a t) = do loadVar t (← asAddr (tmps.getD a undef))) : ∀ (rs : List ResultVar) (vs : List Value), resL P T H rs = some vs →
    ∃ vs', (rs.mapM g).run P w = .ok vs' w ∧ F2 (VRel E) vs vs'
  | [], vs, h => by simp [resL] at h; subst h; exact ⟨[], by simp, .nil⟩
  | r :: rs, vs, h => by
    simp only [resL] at h
    split at h
    case h_2 => cases h
    rename_i v vs0 hv hvs
    simp only [Option.some.injEq] at h; subst h
    obtain ⟨vs', h1, h2⟩ := resL_sound hH hT g hg1 hg2 rs vs0 hvs
    have : ∃ v', (g r).run P w = .ok v' w ∧ VRel E v v' := by
      cases r with
      | tmp t => simp only [resOne, Option.some.injEq] at hv; subst hv; exact ⟨_, by rw [hg1]; rfl, hT t⟩
      | cell a t =>
        simp only [resOne] at hv
        split at hv
        case h_2 => cases hv
        rename_i id off hp
        have hr := hT a
        rw [hp] at hr
        generalize hcv : tmps.getD a undef = u at hr
        cases hr with
        | ptr _ _ l hl =>
          obtain ⟨v', k1, k2⟩ := run_loadA hH hv hl
          refine ⟨v', ?_, k2⟩
          rw [hg2, hcv]
          simp only [Sem.run_bind, asAddr, Sem.run_pure, Result.andThen_ok]
          exact k1
    obtain ⟨v', h3, h4⟩ := this
    refine ⟨v' :: vs', ?_, .cons h4 h2⟩
    simp only [List.mapM_cons, Sem.run_bind, h3, Result.andThen_ok, h1, Sem.run_pure]

theorem resA_sound {P : Program} {B : Nat} {E : Env} {H : Heap} {w : World} {T : List Value} {tmps : Array Value} {fn : Func} {v : Value} (h : resA P fn T H = some v) (hH : HRel P B E H w) (hT : ∀ t, VRel E (T.getD t undef) (tmps.getD t undef)) :
    ∃ v', (results fn tmps).run P w = .ok v' w ∧ VRel E v v' := by
  unfold resA at h
  cases hl : resL P T H fn.results.toList with
  | none => simp [hl] at h
  | some vs =>
    obtain ⟨vs', h1, h2⟩ := resL_sound hH hT (fun | .tmp t => pure (tmps.getD t undef) | .cell a t => do loadVar t (← asAddr (tmps.getD a undef))) (fun _ => rfl) (fun _ _ => rfl) _ _ hl
    have hrun : (results fn tmps).run P w = .ok (if h : vs'.toArray.size = 1 then vs'.toArray[0] else .tuple vs'.toArray) w := by
      have e : results fn tmps = (do
        let vs ← fn.results.mapM (fun | .tmp t => pure (tmps.getD t undef) | .cell a t => do loadVar t (← asAddr (tmps.getD a undef)))
        pure (if h : vs.size = 1 then vs[0] else .tuple vs)) := by
        unfold results
        congr 1
      rw [e, Array.mapM_eq_mapM_toList]
      simp only [Sem.run_bind, Sem.run_map, h1, Result.andThen_ok, Sem.run_pure]
    have hlen := h2.length
    match vs, vs', h2, hlen, h, hrun, hl with
    | [x], [y], .cons hxy _, _, h, hrun, hl =>
      simp only [hl, Option.some.injEq] at h
      subst h
      exact ⟨y, by simpa using hrun, hxy⟩
    | [], [], h2, _, h, hrun, hl =>
      simp only [hl, Option.some.injEq] at h
      subst h
      exact ⟨_, by simpa using hrun, .tuple0⟩
    | x :: x2 :: xs, y :: y2 :: ys, h2, _, h, hrun, hl =>
      simp only [hl, Option.some.injEq] at h
      subst h
      refine ⟨.tuple (y :: y2 :: ys).toArray, by rw [hrun, dif_neg (by simp)], .tuple_iff (.of_F2 h2)⟩

theorem leaves_quiet {P : Program} {fn : Func} {tmps : Array Value} {R : Ending → World → Prop} {E : Env} {w : World} (hres : ∃ v, (results fn tmps).run P w = .ok v w ∧ R (.returned v) w) :
    ∀ (D : Defs) (ds : List Deferred), DsRel E D ds → (D.all fun d => quietDefer P d.1 && callable P d.1) = true → Leaves P fn tmps R ds .returning w
  | _, _, .nil, _ => hres
  | d :: D, d' :: ds, .cons hd ht, hall => by
    simp only [List.all_cons, Bool.and_eq_true] at hall
    obtain ⟨⟨hq, hc⟩, hall⟩ := hall
    obtain ⟨c', a', rfl, _⟩ := hd
    have hmk : Nat.beq d.1 markF = false := by
      cases hmk : Nat.beq d.1 markF with
      | false => rfl
      | true => simp [quietDefer, hmk] at hq
    rw [mkD_fn hmk]
    refine ⟨by simp, .func d.1, c', d.1, a' ++ c', rfl, ?_, ?_⟩
    · simp only [invoke]
      exact run_callFunc hc _ w
    · refine (quietDefer_sound hq (a' ++ c') w).mono ?_
      rintro e u' w' ⟨⟨v, rfl⟩, rfl, rfl⟩
      exact leaves_quiet hres D ds ht (by simpa using hall)

theorem tmps_of_args {E : Env} {args : List Value} {args' : Array Value} {n : Nat} (hA : LRel E args args') : TRel E (args ++ List.replicate (n - args.length) undef) (args' ++ Array.replicate (n - args'.size) undef) := by
  have hlen : args.length = args'.size := by simpa using hA.size
  refine ⟨by simp [hlen], fun t => ?_⟩
  have hat := hA.at_ t
  by_cases ht : t < args.length
  · have ht' : t < args'.size := by omega
    simp only [Array.getD_eq_getD_getElem?, List.getD_eq_getElem?_getD, List.getElem?_append_left ht, Array.getElem?_append_left ht'] at hat ⊢
    simpa using hat
  · have ht' : ¬ t < args'.size := by omega
    have e1 : (args ++ List.replicate (n - args.length) undef).getD t undef = undef := by
      rw [List.getD_eq_getElem?_getD, List.getElem?_append_right (by omega), List.getElem?_replicate]
      split <;> rfl
    have e2 : (args' ++ Array.replicate (n - args'.size) undef).getD t undef = undef := by
      rw [Array.getD_eq_getD_getElem?, Array.getElem?_append_right (by omega), Array.getElem?_replicate]
      split <;> rfl
    rw [e1, e2]; exact .undef E

/-- A function's body. -/
theorem does_of_awp {P : Program} {f : FuncId} {fn : Func} {c : Code} (hf : P.funcs[f]? = some fn) (hb : fn.body = some c) {args : List Value} {H H' : Heap} {v : Value}
    (h : Awp P c (fun ex T' H'' D' => (ex = .normal ∨ ex = .ret) ∧ (D'.all fun d => quietDefer P d.1 && callable P d.1) = true ∧ resA P fn T' H'' = some v ∧ H'' = H') (args ++ List.replicate (fn.ntmps - args.length) undef) H []) :
    Does P f args H v H' := by
  intro B E w args' hH hA
  have hT := tmps_of_args (n := fn.ntmps) hA
  refine calls_of_wp_defers hf hb (wp_mono ((wpIn_wide (n := 0)).1 (h B E { tmps := args' ++ Array.replicate (fn.ntmps - args'.size) undef, defers := [] } w none 0 (.inl rfl) ⟨hH, hT, .nil⟩)) ?_)
  rintro e a' w' ⟨E', T', H'', D', ⟨he, hq, hr, rfl⟩, hle, hS, hbel⟩
  have hl : Leaves P fn a'.tmps (fun e w' => ∃ E' v', E.le E' ∧ HRel P B E' H'' w' ∧ VRel E' v v' ∧ Below B w w' ∧ e = .returned v') a'.defers .returning w' := by
    refine leaves_quiet ?_ D' a'.defers hS.defs hq
    obtain ⟨v', k1, k2⟩ := resA_sound hr hS.heap hS.tmps.at_
    exact ⟨v', k1, E', v', hle, hS.heap, k2, hbel, rfl⟩
  rcases he with rfl | rfl <;> exact hl
end Go.Abs

namespace Go.Abs
open Go.RowKit (Below)

/-- Equality of values, as far as it is needed. -/
def veq0 : Value → Value → Bool
  | .bool a, .bool b => a == b
  | .int j a, .int k b => decide (j = k) && decide (a = b)
  | .string a, .string b => a.data == b.data
  | .pointer none, .pointer none => true
  | .pointer (some a), .pointer (some b) => decide (a = b)
  | .slice none n c, .slice none n' c' => Nat.beq n n' && Nat.beq c c'
  | .slice (some a) n c, .slice (some b) n' c' => decide (a = b) && Nat.beq n n' && Nat.beq c c'
  | .map none, .map none => true
  | .map (some a), .map (some b) => Nat.beq a b
  | .nilFunc, .nilFunc => true
  | .nilIface, .nilIface => true
  | _, _ => false
def veqL : List Value → List Value → Bool
  | [], [] => true
  | a :: l, b :: m => veq0 a b && veqL l m
  | _, _ => false
def veq : Value → Value → Bool
  | .agg a, .agg b => veqL a.toList b.toList
  | .tuple a, .tuple b => veqL a.toList b.toList
  | a, b => veq0 a b

theorem veq0_eq {a b : Value} (h : veq0 a b = true) : a = b := by
  unfold veq0 at h
  split at h <;> first | rfl | (cases h; done) | skip
  · simpa using h
  · simp at h; rw [h.1, h.2]
  · rename_i x y
    obtain ⟨x⟩ := x
    obtain ⟨y⟩ := y
    simp at h
    rw [h]
  · simp at h; rw [h]
  · simp only [Bool.and_eq_true] at h; rw [beqN h.1, beqN h.2]
  · simp only [Bool.and_eq_true, decide_eq_true_eq] at h; rw [h.1.1, beqN h.1.2, beqN h.2]
  · rw [beqN h]

theorem veqL_eq : ∀ {l m : List Value}, veqL l m = true → l = m
  | [], [], _ => rfl
  | [], _ :: _, h => by cases h
  | _ :: _, [], h => by cases h
  | a :: l, b :: m, h => by
    simp only [veqL, Bool.and_eq_true] at h
    rw [veq0_eq h.1, veqL_eq h.2]

theorem veq_eq {a b : Value} (h : veq a b = true) : a = b := by
  unfold veq at h
  split at h
  · rename_i x y
    have := veqL_eq h
    rw [← Array.toArray_toList (xs := x), this, Array.toArray_toList]
  · rename_i x y
    have := veqL_eq h
    rw [← Array.toArray_toList (xs := x), this, Array.toArray_toList]
  · exact veq0_eq h

/-- Does an operation look at the heap? -/
def isRead : Op → Bool
  | .load .. | .lookup .. | .convert .. => true
  | _ => false

theorem evQ_noheap {P : Program} {ρ : Operand → Value} {o : Oper} (h : isRead o.op = false) (H H' : Heap) : evQ P ρ H o = evQ P ρ H' o := by
  obtain ⟨dst, op, type, pos, after, guard⟩ := o
  cases op <;> first | rfl | cases h

theorem evR_noheap {P : Program} {ρ : Operand → Value} {o : Oper} (h : isRead o.op = false) (H H' : Heap) : evR P ρ H o = evR P ρ H' o := by
  have := evQ_noheap (P := P) (ρ := ρ) h H H'
  obtain ⟨dst, op, type, pos, after, guard⟩ := o
  cases op <;> first | exact this | cases h

inductive Kind where
  | read | write | call | defer | method | empty

def kindOf (P : Program) (ρ : Operand → Value) (o : Oper) : Kind :=
  match o.op with
  | .alloc _ | .box .. | .buildSlice .. | .store .. | .makeMap .. | .mapUpdate .. | .insert .. => .write
  | .makeSlice _ _ c => match ρ c with
    | .int _ 0 => .empty
    | _ => .write
  | .call c => match c.callee with
    | .builtin .append => .write
    | .builtin .copy => .write
    | .builtin _ => .read
    | _ => .call
  | .defer _ => .defer
  | .nilCheck x => match ρ x with
    | .func (.method _) _ _ => .method
    | _ => .read
  | _ => .read

/-- What a call yields; no heap means that it is left as it was. -/
abbrev CallF := FuncId → List Value → Heap → Option (Value × Option Heap)

/-- The nil check of a method value. -/
def nilM (P : Program) (ρ : Operand → Value) (o : Oper) : Option Value :=
  match o.op with
  | .nilCheck x => match ρ x with
    | .func (.method name) first cap => match first.toList with
      | [.iface t (.pointer (some ad))] => match methodT P t name with
        | some _ => some (.func (.method name) #[.iface t (.pointer (some ad))] cap)
        | none => none
      | _ => none
    | _ => none
  | _ => none

theorem nilM_sound {P : Program} {ρ : Operand → Value} {o : Oper} {v : Value} (h : nilM P ρ o = some v) : SPure P o ρ v := by
  unfold nilM at h
  split at h
  case h_2 => cases h
  rename_i x ho
  split at h
  case h_2 => cases h
  rename_i name first cap hv
  split at h
  case h_2 => cases h
  rename_i t ad hf
  split at h
  case h_2 => cases h
  rename_i g hg
  simp only [Option.some.injEq] at h; subst h
  have hfirst : first = #[.iface t (.pointer (some ad))] := by rw [← Array.toArray_toList (xs := first), hf]
  subst hfirst
  intro H
  have := SQuiet.nilMethod ho H hv hg
  rw [hv] at this
  exact this

/-- A region in the text's order. -/
def rEv (P : Program) (call : CallF) (ops : Array Oper) : List Oper → List Value → Heap → Defs → Option (List Value × Heap × Defs)
  | [], T, H, D => some (T, H, D)
  | o :: rest, T, H, D => bif okOper ops T o then
      bif wantedT ops o (T.getD · undef) then
        match kindOf P (ev T) o with
        | .read => match evR P (ev T) H o with
          | some v => rEv P call ops rest (putA T o.dst v) H D
          | none => none
        | .method => match nilM P (ev T) o with
          | some v => rEv P call ops rest (putA T o.dst v) H D
          | none => none
        | .empty => match emptyA P (ev T) o with
          | some v => rEv P call ops rest (putA T o.dst v) H D
          | none => none
        | .write => match evW P (ev T) H o with
          | some (v, H') => rEv P call ops rest (putA T o.dst v) H' D
          | none => none
        | .call => match o.op with
          | .call c => match calleeA P (ev T) c with
            | some (f, args) => match call f args H with
              | some (v, some H') => rEv P call ops rest (putA T o.dst v) H' D
              | some (v, none) => rEv P call ops rest (putA T o.dst v) H D
              | none => none
            | none => none
          | _ => none
        | .defer => match o.op with
          | .defer c => match c.callee with
            | .value fo => match ev T fo with
              | .func (.func g) first cap => bif Nat.beq g markF then none else rEv P call ops rest (putA T o.dst undef) H ((g, first.toList ++ (c.args.toList.map (ev T)) ++ cap.toList) :: D)
              | _ => none
            | _ => none
          | _ => none
      else rEv P call ops rest (putA T o.dst undef) H D
    else none

theorem cond_bool {α : Type} {b : Bool} {x y z : α} (h : (bif b then x else y) = z) : (b = true ∧ x = z) ∨ (b = false ∧ y = z) := by
  cases b
  · exact .inr ⟨rfl, h⟩
  · exact .inl ⟨rfl, h⟩

theorem rEv_sound {P : Program} {call : CallF} (hc : ∀ f args H v h, call f args H = some (v, h) → Does P f args H v (h.getD H)) {ops : Array Oper} : ∀ (l : List Oper) (T : List Value) (H : Heap) (D : Defs) (T' : List Value) (H' : Heap) (D' : Defs),
    rEv P call ops l T H D = some (T', H', D') → Run P ops l T H D (fun T2 H2 D2 => T2 = T' ∧ H2 = H' ∧ D2 = D')
  | [], T, H, D, T', H', D', h => by simp only [rEv, Option.some.injEq, Prod.mk.injEq] at h; exact h
  | o :: rest, T, H, D, T', H', D', h => by
    simp only [rEv] at h
    obtain ⟨hok, h⟩ := cond_opt h
    refine ⟨hok, ?_⟩
    rcases cond_bool h with ⟨hw, h⟩ | ⟨hw, h⟩
    · refine .inl ⟨hw, ?_⟩
      split at h
      · split at h
        case h_2 => cases h
        rename_i v hv
        exact ⟨v, H, D, .of_quiet D (.of_ev hv), rEv_sound hc rest _ _ _ _ _ _ h⟩
      · split at h
        case h_2 => cases h
        rename_i v hv
        exact ⟨v, H, D, .of_quiet D (nilM_sound hv H), rEv_sound hc rest _ _ _ _ _ _ h⟩
      · split at h
        case h_2 => cases h
        rename_i v hv
        exact ⟨v, H, D, .of_quiet D (emptyA_sound hv H), rEv_sound hc rest _ _ _ _ _ _ h⟩
      · split at h
        case h_2 => cases h
        rename_i v H1 hv
        exact ⟨v, H1, D, .of_ev D hv, rEv_sound hc rest _ _ _ _ _ _ h⟩
      · split at h
        case h_2 => cases h
        rename_i c ho
        split at h
        case h_2 => cases h
        rename_i f args hca
        split at h
        case h_3 => cases h
        · rename_i v H1 hv
          exact ⟨v, H1, D, .call ho D hca (hc _ _ _ _ _ hv), rEv_sound hc rest _ _ _ _ _ _ h⟩
        · rename_i v hv
          exact ⟨v, H, D, .call ho D hca (hc _ _ _ _ _ hv), rEv_sound hc rest _ _ _ _ _ _ h⟩
      · split at h
        case h_2 => cases h
        rename_i c ho
        split at h
        case h_2 => cases h
        rename_i fo hcal
        split at h
        case h_2 => cases h
        rename_i g first cap hv
        rcases cond_bool h with ⟨_, h⟩ | ⟨hg, h⟩
        · cases h
        · exact ⟨undef, H, _, .defer ho H D hcal hv hg, rEv_sound hc rest _ _ _ _ _ _ h⟩
    · exact .inr ⟨hw, rEv_sound hc rest _ _ _ _ _ _ h⟩

/-- A region that draws. The first 'cur' reads and the first 'pc' effects are of the heap as it is now. -/
def dEv (P : Program) (call : CallF) (ops : Array Oper) (bs : Array Nat) (fl : Bool) : List Oper → Nat → List Value → Heap → Heap → List (Nat × Heap) → List Rd → List Nat → Nat → Nat → Option (List Value × Heap)
  | [], _, T, _, H, _, _, _, _, _ => some (T, H)
  | o :: rest, i, T, G, H, past, reads, fs, cur, pc => bif okOper ops T o && (match o.dst with | some d => Nat.blt d T.length | none => true) then
      bif wantedT ops o (T.getD · undef) then
        match kindOf P (ev T) o with
        | .read => match evR P (ev T) G o with
          | some v => bif isRead o.op then
              bif (past.drop pc).all (fun p => bit bs i p.1 || (match evR P (ev T) p.2 o with | some u => veq u v | none => false)) then dEv P call ops bs fl rest (i + 1) (putA T o.dst v) G H past (⟨i, o, T, v⟩ :: reads) fs (cur + 1) pc else none
            else dEv P call ops bs fl rest (i + 1) (putA T o.dst v) G H past reads fs cur pc
          | none => none
        | .method => match nilM P (ev T) o with
          | some v => dEv P call ops bs fl rest (i + 1) (putA T o.dst v) G H past reads fs cur pc
          | none => none
        | .empty => match emptyA P (ev T) o with
          | some v => dEv P call ops bs fl rest (i + 1) (putA T o.dst v) G H past reads fs cur pc
          | none => none
        | .write => match (bif fl && past.isEmpty then freshA P (ev T) H.next o else none) with
          | some (v, ob) => (match H.get H.next with
            | .dead => dEv P call ops bs fl rest (i + 1) (putA T o.dst v) G (H.push ob) past reads (i :: fs) cur pc
            | _ => none)
          | none => match evW P (ev T) H o with
            | some (v, H') => bif past.all (fun p => bit bs i p.1) && fs.all (fun j => bit bs i j) && reads.all (fun r => bit bs i r.i || (match evR P (ev r.T) H' r.o with | some u => veq u r.v | none => false)) then
                dEv P call ops bs fl rest (i + 1) (putA T o.dst v) H' H' ((i, G) :: past) reads fs 0 0 else none
            | none => none
        | .call => match o.op with
          | .call c => match calleeA P (ev T) c with
            | some (f, args) => match call f args H with
              | some (v, some H') => bif past.all (fun p => bit bs i p.1) && fs.all (fun j => bit bs i j) && reads.all (fun r => bit bs i r.i || (match evR P (ev r.T) H' r.o with | some u => veq u r.v | none => false)) then
                  dEv P call ops bs fl rest (i + 1) (putA T o.dst v) H' H' ((i, G) :: past) reads fs 0 0 else none
              | some (v, none) => bif past.all (fun p => bit bs i p.1) && fs.isEmpty && (reads.drop cur).all (fun r => bit bs i r.i) then
                  dEv P call ops bs fl rest (i + 1) (putA T o.dst v) H H ((i, G) :: past) reads fs cur (pc + 1) else none
              | none => none
            | none => none
          | _ => none
        | .defer => none
      else dEv P call ops bs fl rest (i + 1) (putA T o.dst undef) G H past reads fs cur pc
    else none

theorem quiet_of_veq {P : Program} {ρ : Operand → Value} {H : Heap} {o : Oper} {v : Value} (h : (match evR P ρ H o with | some u => veq u v | none => false) = true) : SQuietM P o ρ H v := by
  split at h
  · rename_i u hu
    have := veq_eq h
    subst this
    exact .of_ev hu
  · cases h

theorem mem_split {α : Type} {l : List α} {n : Nat} {x : α} (h : x ∈ l) : x ∈ l.take n ∨ x ∈ l.drop n := by
  rw [← List.take_append_drop n l] at h
  exact List.mem_append.1 h

theorem dEv_sound {P : Program} {call : CallF} (hc : ∀ f args H v h, call f args H = some (v, h) → Does P f args H v (h.getD H)) {ops : Array Oper} {bs : Array Nat} {fl : Bool} (D : Defs) : ∀ (l : List Oper) (i : Nat) (T : List Value) (G H : Heap) (past : List (Nat × Heap)) (reads : List Rd) (fs : List Nat) (cur pc : Nat) (T' : List Value) (H' : Heap),
    (fs = [] → G = H) → (∀ r ∈ reads.take cur, SQuietM P r.o (ev r.T) G r.v) → (∀ p ∈ past.take pc, p.2 = G) →
    dEv P call ops bs fl l i T G H past reads fs cur pc = some (T', H') → DRun P ops bs D l i T G H past reads fs (fun T2 H2 => T2 = T' ∧ H2 = H')
  | [], i, T, G, H, past, reads, fs, cur, pc, T', H', i1, i2, i3, h => by simp only [dEv, Option.some.injEq, Prod.mk.injEq] at h; exact h
  | o :: rest, i, T, G, H, past, reads, fs, cur, pc, T', H', i1, i2, i3, h => by
    simp only [dEv] at h
    obtain ⟨hok, h⟩ := cond_opt h
    simp only [Bool.and_eq_true] at hok
    refine ⟨hok.1, fun d hd => ?_, ?_⟩
    · have := hok.2
      rw [hd] at this
      simpa [Nat.blt_eq] using this
    have heff : ∀ v H1, SDoes P o (ev T) H D v H1 D →
        (bif past.all (fun p => bit bs i p.1) && fs.all (fun j => bit bs i j) && reads.all (fun r => bit bs i r.i || (match evR P (ev r.T) H1 r.o with | some u => veq u r.v | none => false)) then
              dEv P call ops bs fl rest (i + 1) (putA T o.dst v) H1 H1 ((i, G) :: past) reads fs 0 0 else none) = some (T', H') →
        ∃ v H2, SDoes P o (ev T) H D v H2 D ∧ (∀ p ∈ past, bit bs i p.1 = true) ∧ (∀ j ∈ fs, bit bs i j = true) ∧ (∀ r ∈ reads, bit bs i r.i = false → SQuietM P r.o (ev r.T) H2 r.v) ∧
          DRun P ops bs D rest (i + 1) (putA T o.dst v) H2 H2 ((i, G) :: past) reads fs (fun T2 H3 => T2 = T' ∧ H3 = H') := by
      intro v H1 hd h
      obtain ⟨hb, h⟩ := cond_opt h
      simp only [Bool.and_eq_true, List.all_eq_true] at hb
      refine ⟨v, H1, hd, hb.1.1, hb.1.2, fun r hr hbit => ?_, dEv_sound hc D rest _ _ _ _ _ _ _ _ _ _ _ (fun _ => rfl) (fun r hr => by simp at hr) (fun p hp => by simp at hp) h⟩
      have := hb.2 r hr
      rw [hbit, Bool.false_or] at this
      exact quiet_of_veq this
    rcases cond_bool h with ⟨hw, h⟩ | ⟨hw, h⟩
    · split at h
      · split at h
        case h_2 => cases h
        rename_i v hv
        rcases cond_bool h with ⟨hrd, h⟩ | ⟨hrd, h⟩
        · obtain ⟨hp, h⟩ := cond_opt h
          refine .inr (.inl ⟨hw, v, .of_ev hv, fun p hpm hbit => ?_, dEv_sound hc D rest _ _ _ _ _ _ _ _ _ _ _ i1 (fun r hr => ?_) i3 h⟩)
          · rcases mem_split (n := pc) hpm with hm | hm
            · rw [i3 p hm]; exact .of_ev hv
            · have := List.all_eq_true.1 hp p hm
              rw [hbit, Bool.false_or] at this
              exact quiet_of_veq this
          · rw [List.take_succ_cons] at hr
            rcases List.mem_cons.1 hr with rfl | hr
            · exact .of_ev hv
            · exact i2 r hr
        · exact .inl ⟨hw, v, fun H2 => .of_ev (by rw [evR_noheap hrd H2 G]; exact hv), dEv_sound hc D rest _ _ _ _ _ _ _ _ _ _ _ i1 i2 i3 h⟩
      · split at h
        case h_2 => cases h
        rename_i v hv
        exact .inl ⟨hw, v, nilM_sound hv, dEv_sound hc D rest _ _ _ _ _ _ _ _ _ _ _ i1 i2 i3 h⟩
      · split at h
        case h_2 => cases h
        rename_i v hv
        exact .inl ⟨hw, v, emptyA_sound hv, dEv_sound hc D rest _ _ _ _ _ _ _ _ _ _ _ i1 i2 i3 h⟩
      · split at h
        · rename_i v ob hfa
          obtain ⟨hfl, hfa⟩ := cond_opt hfa
          simp only [Bool.and_eq_true] at hfl
          split at h
          case h_2 => cases h
          rename_i hdead
          refine .inr (.inr (.inr (.inl ⟨hw, ?_, v, ob, (freshA_sound hfa).fresh _, hdead, dEv_sound hc D rest _ _ _ _ _ _ _ _ _ _ _ (fun h => by cases h) i2 i3 h⟩)))
          simpa using hfl.2
        · split at h
          case h_2 => cases h
          rename_i v H1 hv
          exact .inr (.inr (.inl ⟨hw, heff v H1 (.of_ev D hv) h⟩))
      · split at h
        case h_2 => cases h
        rename_i c ho
        split at h
        case h_2 => cases h
        rename_i f args hca
        split at h
        case h_3 => cases h
        · rename_i v H1 hv
          exact .inr (.inr (.inl ⟨hw, heff v H1 (.call ho D hca (hc _ _ _ _ _ hv)) h⟩))
        · rename_i v hv
          obtain ⟨hb, h⟩ := cond_opt h
          simp only [Bool.and_eq_true] at hb
          have hfs : fs = [] := by simpa using hb.1.2
          have hGH := i1 hfs
          subst hGH
          refine .inr (.inr (.inl ⟨hw, v, G, .call ho D hca (hc _ _ _ _ _ hv), List.all_eq_true.1 hb.1.1, (fun j hj => by rw [hfs] at hj; cases hj), (fun r hr hbit => ?_), dEv_sound hc D rest _ _ _ _ _ _ _ _ _ _ _ (fun _ => rfl) i2 (fun p hp => ?_) h⟩))
          · rcases mem_split (n := cur) hr with hm | hm
            · exact i2 r hm
            · have := List.all_eq_true.1 hb.2 r hm
              rw [hbit] at this; cases this
          · rw [List.take_succ_cons] at hp
            rcases List.mem_cons.1 hp with rfl | hp
            · rfl
            · exact i3 p hp
      · cases h
    · exact .inr (.inr (.inr (.inr ⟨hw, dEv_sound hc D rest _ _ _ _ _ _ _ _ _ _ _ i1 i2 i3 h⟩)))

def dEv2 (P : Program) (call : CallF) (ops : Array Oper) (bs : Array Nat) (T : List Value) (H : Heap) : Option (List Value × Heap) :=
  match dEv P call ops bs false ops.toList 0 T H H [] [] [] 0 0 with
  | some r => some r
  | none => dEv P call ops bs true ops.toList 0 T H H [] [] [] 0 0

theorem dEv2_sound {P : Program} {call : CallF} (hc : ∀ f args H v h, call f args H = some (v, h) → Does P f args H v (h.getD H)) {ops : Array Oper} {bs : Array Nat} (D : Defs) {T : List Value} {H : Heap} {T' : List Value} {H' : Heap}
    (h : dEv2 P call ops bs T H = some (T', H')) : DRun P ops bs D ops.toList 0 T H H [] [] [] (fun T2 H2 => T2 = T' ∧ H2 = H') := by
  unfold dEv2 at h
  split at h
  · rename_i r hr
    cases h
    exact dEv_sound hc D _ _ _ _ _ _ _ _ _ _ _ _ (fun _ => rfl) (fun r hr => by simp at hr) (fun p hp => by simp at hp) hr
  · exact dEv_sound hc D _ _ _ _ _ _ _ _ _ _ _ _ (fun _ => rfl) (fun r hr => by simp at hr) (fun p hp => by simp at hp) h
end Go.Abs

namespace Go.Abs
open Go.RowKit (Below)

inductive Ex where
  | normal
  | exit (id : Nat)
  | ret

def Ex.to : Ex → Exit
  | .normal => .normal
  | .exit id => .exit id
  | .ret => .ret

structure St where
  T : List Value
  H : Heap
  D : Defs

def callB (P : Program) (O : CallF) (run : Code → St → Option (Ex × St)) : CallF := fun f args H =>
  match O f args H with
  | some r => some r
  | none => match P.funcs[f]? with
    | some fn => match fn.body with
      | some c => match run c ⟨args ++ List.replicate (fn.ntmps - args.length) undef, H, []⟩ with
        | some (.exit _, _) => none
        | some (_, s) => bif s.D.all (fun d => quietDefer P d.1 && callable P d.1) then (match resA P fn s.T s.H with
          | some v => some (v, some s.H)
          | none => none) else none
        | none => none
      | none => none
    | none => none

/-- One level of the evaluator. -/
def exF (P : Program) (O : CallF) (run : Code → St → Option (Ex × St)) (c : Code) (s : St) : Option (Ex × St) :=
  match c with
  | .skip => some (.normal, s)
  | .region _ ops false => match rEv P (callB P O run) ops ops.toList s.T s.H s.D with
    | some (T, H, D) => some (.normal, ⟨T, H, D⟩)
    | none => none
  | .region _ ops true => bif regOK ops then (match dEv2 P (callB P O run) ops (Region.before ops) s.T s.H with
    | some (T, H) => some (.normal, ⟨T, H, s.D⟩)
    | none => none) else none
  | .seq x y => match run x s with
    | some (.normal, s') => run y s'
    | r => r
  | .cond c x y => bif okOperand c then (match ev s.T c with
    | .bool true => run x s
    | .bool false => run y s
    | _ => none) else none
  | .block id b => match run b s with
    | some (.exit id', s') => bif Nat.beq id' id then some (.normal, s') else some (.exit id', s')
    | r => r
  | .loop b => match run b s with
    | some (.normal, s') => run (.loop b) s'
    | r => r
  | .exit id => some (.exit id, s)
  | .scope b => run b s
  | .label _ => some (.normal, s)
  | .ret => some (.ret, s)
  | _ => none

/-- The evaluator. -/
def ex (P : Program) (O : CallF) (n : Nat) : Code → St → Option (Ex × St) :=
  Nat.rec (motive := fun _ => Code → St → Option (Ex × St)) (fun _ _ => none) (fun _ ih => exF P O ih) n

theorem ex_succ (P : Program) (O : CallF) (n : Nat) (c : Code) (s : St) : ex P O (n + 1) c s = exF P O (ex P O n) c s := rfl

theorem awp_scope {P : Program} {Q : APost} {T : List Value} {H : Heap} {D : Defs} {c : Code} (h : Awp P c (fun e T H D => (∀ l, e ≠ .goto l) ∧ Q e T H D) T H D) : Awp P (.scope c) Q T H D := by
  intro B E a w rd n hk hS
  have hrd : rd = none := by
    rcases hk with h | h
    · exact h
    · cases h
  subst hrd
  refine (wpIn_wide (n := n)).2 (wp_scope_straight (wp_mono ((wpIn_wide (n := n)).1 (h B E a w none n (.inl rfl) hS)) ?_))
  rintro e a' w' ⟨E', T', H', D', ⟨hg, h1⟩, h2⟩
  cases e with
  | goto l => exact absurd rfl (hg l)
  | _ => exact ⟨E', T', H', D', h1, h2⟩

theorem awp_label {P : Program} {Q : APost} {T : List Value} {H : Heap} {D : Defs} {l : Nat} (h : Q .normal T H D) : Awp P (.label l) Q T H D := fun B E a w rd n hk hS => wpIn_label ⟨E, T, H, D, h, .refl E, hS, .refl B w⟩

def Is (r : Ex × St) : APost := fun e T H D => e = r.1.to ∧ T = r.2.T ∧ H = r.2.H ∧ D = r.2.D

theorem Is.mk' (e : Ex) (s : St) : Is (e, s) e.to s.T s.H s.D := ⟨rfl, rfl, rfl, rfl⟩

theorem callB_sound {P : Program} {O : CallF} (hO : ∀ f args H v h, O f args H = some (v, h) → Does P f args H v (h.getD H)) {run : Code → St → Option (Ex × St)} (hrun : ∀ c s r, run c s = some r → Awp P c (Is r) s.T s.H s.D) :
    ∀ f args H v h, callB P O run f args H = some (v, h) → Does P f args H v (h.getD H) := by
  intro f args H v H' h
  unfold callB at h
  split at h
  · rename_i r hr
    simp only [Option.some.injEq] at h
    subst h
    exact hO _ _ _ _ _ hr
  · split at h
    case h_2 => cases h
    rename_i fn hf
    split at h
    case h_2 => cases h
    rename_i c hb
    split at h
    · cases h
    · rename_i e s hne hr
      obtain ⟨hD, h⟩ := cond_opt h
      split at h
      case h_2 => cases h
      rename_i v' hv
      simp only [Option.some.injEq, Prod.mk.injEq] at h
      obtain ⟨rfl, rfl⟩ := h
      refine does_of_awp hf hb (awp_mono (hrun _ _ _ hr) ?_)
      rintro e' T' H2 D' ⟨rfl, rfl, rfl, rfl⟩
      refine ⟨?_, hD, hv, rfl⟩
      cases e with
      | normal => exact .inl rfl
      | ret => exact .inr rfl
      | exit id => exact (hne id rfl).elim
    · cases h

theorem ex_sound {P : Program} (hm : P.follows .mixedOrders = true) {O : CallF} (hO : ∀ f args H v h, O f args H = some (v, h) → Does P f args H v (h.getD H)) : ∀ (n : Nat) (c : Code) (s : St) (r : Ex × St), ex P O n c s = some r → Awp P c (Is r) s.T s.H s.D := by
  intro n
  induction n using Nat.strongRecOn with
  | _ n ih =>
    intro c s r h
    cases n with
    | zero => cases h
    | succ n =>
      have ihn : ∀ c s r, ex P O n c s = some r → Awp P c (Is r) s.T s.H s.D := ih n (Nat.lt_succ_self n)
      have hcall := callB_sound hO ihn
      rw [ex_succ] at h
      cases c with
      | skip => simp only [exF, Option.some.injEq] at h; subst h; exact awp_skip (Is.mk' _ _)
      | label l => simp only [exF, Option.some.injEq] at h; subst h; exact awp_label (Is.mk' _ _)
      | exit id => simp only [exF, Option.some.injEq] at h; subst h; exact awp_exit (Is.mk' _ _)
      | ret => simp only [exF, Option.some.injEq] at h; subst h; exact awp_ret (Is.mk' _ _)
      | region id ops draw =>
        cases draw with
        | false =>
          simp only [exF] at h
          split at h
          case h_2 => cases h
          rename_i T' H' D' hr
          simp only [Option.some.injEq] at h; subst h
          have := rEv_sound hcall ops.toList s.T s.H s.D T' H' D' hr
          refine awp_mono (Q := fun e T2 H2 D2 => e = .normal ∧ T2 = T' ∧ H2 = H' ∧ D2 = D') (awp_region ?_) (fun e T H D h => h)
          simpa using this
        | true =>
          simp only [exF] at h
          obtain ⟨hreg, h⟩ := cond_opt h
          split at h
          case h_2 => cases h
          rename_i T' H' hr
          simp only [Option.some.injEq] at h; subst h
          have := dEv2_sound hcall s.D hr
          refine awp_mono (Q := fun e T2 H2 D2 => e = .normal ∧ T2 = T' ∧ H2 = H' ∧ D2 = s.D) (awp_draw hm hreg ?_) (fun e T H D h => h)
          simpa using this
      | seq x y =>
        simp only [exF] at h
        split at h
        · rename_i s' hx
          refine awp_seq (awp_mono (ihn _ _ _ hx) ?_)
          rintro e T H D ⟨rfl, rfl, rfl, rfl⟩
          exact ihn _ _ _ h
        · rename_i hne
          refine awp_seq (awp_mono (ihn _ _ _ h) ?_)
          rintro e T H D ⟨rfl, rfl, rfl, rfl⟩
          obtain ⟨e, s'⟩ := r
          cases e with
          | normal => exact absurd h (hne s')
          | exit id => exact Is.mk' _ _
          | ret => exact Is.mk' _ _
      | cond c x y =>
        simp only [exF] at h
        obtain ⟨hok, h⟩ := cond_opt h
        split at h
        · rename_i hc; exact awp_cond hok hc (ihn _ _ _ h)
        · rename_i hc; exact awp_cond hok hc (ihn _ _ _ h)
        · cases h
      | block id b =>
        simp only [exF] at h
        split at h
        · rename_i id' s' hb
          refine awp_block (awp_mono (ihn _ _ _ hb) ?_)
          rintro e T H D ⟨rfl, rfl, rfl, rfl⟩
          rcases cond_bool h with ⟨hid, h⟩ | ⟨hid, h⟩
          · simp only [Option.some.injEq] at h; subst h
            show if id' = id then _ else _
            rw [if_pos (beqN hid)]
            exact Is.mk' _ _
          · simp only [Option.some.injEq] at h; subst h
            show if id' = id then _ else _
            rw [if_neg (fun e => by subst e; simp at hid)]
            exact Is.mk' _ _
        · rename_i hne
          refine awp_block (awp_mono (ihn _ _ _ h) ?_)
          rintro e T H D ⟨rfl, rfl, rfl, rfl⟩
          obtain ⟨e, s'⟩ := r
          cases e with
          | exit id' => exact absurd h (hne id' s')
          | normal => exact Is.mk' _ _
          | ret => exact Is.mk' _ _
      | loop b =>
        refine awp_loop (fun k T H D => k ≤ n + 1 ∧ ex P O k (.loop b) ⟨T, H, D⟩ = some r) (n + 1) ⟨Nat.le_refl _, by rw [ex_succ]; exact h⟩ ?_
        rintro k T H D ⟨hk, hx⟩
        cases k with
        | zero => cases hx
        | succ k =>
          have ihk : ∀ c s r, ex P O k c s = some r → Awp P c (Is r) s.T s.H s.D := ih k (by omega)
          rw [ex_succ] at hx
          simp only [exF] at hx
          split at hx
          · rename_i s' hb
            refine awp_mono (ihk _ _ _ hb) ?_
            rintro e T' H' D' ⟨rfl, rfl, rfl, rfl⟩
            exact ⟨k, Nat.lt_succ_self k, by omega, hx⟩
          · rename_i hne
            refine awp_mono (ihk _ _ _ hx) ?_
            rintro e T' H' D' ⟨rfl, rfl, rfl, rfl⟩
            obtain ⟨e, s'⟩ := r
            cases e with
            | normal => exact absurd hx (hne s')
            | exit id => exact Is.mk' _ _
            | ret => exact Is.mk' _ _
      | scope b =>
        simp only [exF] at h
        refine awp_scope (awp_mono (ihn _ _ _ h) ?_)
        rintro e T H D ⟨rfl, rfl, rfl, rfl⟩
        refine ⟨fun l => ?_, Is.mk' _ _⟩
        cases r.1 <;> simp [Ex.to]
      | rangeFunc f ps x y => simp [exF] at h
      | goto l => simp [exF] at h
      | refuse why => simp [exF] at h

/-- A call, evaluated. -/
def runF (P : Program) (O : CallF) (n : Nat) : CallF := callB P O (ex P O n)

theorem runF_sound {P : Program} (hm : P.follows .mixedOrders = true) {O : CallF} (hO : ∀ f args H v h, O f args H = some (v, h) → Does P f args H v (h.getD H)) {n : Nat} {f : FuncId} {args : List Value} {H : Heap} {h' : Option Heap} {v : Value} (h : runF P O n f args H = some (v, h')) : Does P f args H v (h'.getD H) :=
  callB_sound hO (ex_sound hm hO n) f args H v h' h
end Go.Abs

namespace Go.Abs
open Go.RowKit (Below)

/-- What one operation comes to under a condition. -/
inductive OpR where
  | fr (v : Value) (ob : AObj) (c : Prop)
  | rd (v : Value) (c : Prop)
  | pure (v : Value) (c : Prop)
  | same (v : Value) (c : Prop)
  | eff (v : Value) (H : Heap) (c : Prop)

abbrev OpO := Oper → (Operand → Value) → Heap → Option OpR

structure SoundO (P : Program) (OO : OpO) : Prop where
  fr : ∀ o ρ H v ob c, OO o ρ H = some (.fr v ob c) → c → SFresh P o ρ H H.next v ob
  rd : ∀ o ρ H v c, OO o ρ H = some (.rd v c) → c → evR P ρ H o = some v
  pure : ∀ o ρ H v c, OO o ρ H = some (.pure v c) → c → SPure P o ρ v
  same : ∀ o ρ H v c, OO o ρ H = some (.same v c) → c → ∀ D, SDoes P o ρ H D v H D
  eff : ∀ o ρ H v H' c, OO o ρ H = some (.eff v H' c) → c → ∀ D, SDoes P o ρ H D v H' D

theorem SDoes.of_fresh {P : Program} {o : Oper} {ρ : Operand → Value} {H : Heap} {v : Value} {ob : AObj} (h : SFresh P o ρ H H.next v ob) (D : Defs) : SDoes P o ρ H D v (H.push ob) D := by
  intro B E a w rd n hk hH hD hr K Q hK
  obtain ⟨v', w', l, h1, h2, h3, h4, h5⟩ := h H (fun _ _ => rfl) B E a w hH hr hH.newId
  have h0 : HRel P B E ⟨H.next + 1, H.l⟩ w := hH.ext (Nat.le_succ _) fun _ => rfl
  have hf := h0.fill (id := H.next) l hH.newId (Nat.lt_succ_self _) h2 h3.size (fun k hk => h3.block k hk) h5
  refine wpIn_FR hk h1 ?_
  exact hK (E.add H.next l) v' w' a.defers (Env.le_add hH.newId) hf h4 (h3.mono hH.base) (hD.mono (Env.le_add hH.newId))

/-- A region in the text's order, with conditions. -/
def rEv3 (P : Program) (call : CallF) (OO : OpO) (ops : Array Oper) : List Oper → List Value → Heap → Defs → Prop → Option (List Value × Heap × Defs × Prop)
  | [], T, H, D, L => some (T, H, D, L)
  | o :: rest, T, H, D, L => bif okOper ops T o then
      bif wantedT ops o (T.getD · undef) then
        match OO o (ev T) H with
        | some (.fr v ob c) => rEv3 P call OO ops rest (putA T o.dst v) (H.push ob) D (c ∧ L)
        | some (.rd v c) => rEv3 P call OO ops rest (putA T o.dst v) H D (c ∧ L)
        | some (.pure v c) => rEv3 P call OO ops rest (putA T o.dst v) H D (c ∧ L)
        | some (.same v c) => rEv3 P call OO ops rest (putA T o.dst v) H D (c ∧ L)
        | some (.eff v H' c) => rEv3 P call OO ops rest (putA T o.dst v) H' D (c ∧ L)
        | none => match rEv P call ops [{ o with guard := none }] T H D with
          | some (T', H', D') => rEv3 P call OO ops rest T' H' D' L
          | none => none
      else rEv3 P call OO ops rest (putA T o.dst undef) H D L
    else none

theorem run_unguard {P : Program} {ops : Array Oper} {o : Oper} {T : List Value} {H : Heap} {D : Defs} {K : List Value → Heap → Defs → Prop} (h : Run P ops [{ o with guard := none }] T H D K) : ∃ v H' D', SDoes P o (ev T) H D v H' D' ∧ K (putA T o.dst v) H' D' := by
  obtain ⟨_, h | h⟩ := h
  · obtain ⟨_, v, H', D', h1, h2⟩ := h
    exact ⟨v, H', D', h1, h2⟩
  · exact absurd h.1 (by simp [wantedT])

theorem rEv3_sound {P : Program} {call : CallF} (hc : ∀ f args H v h, call f args H = some (v, h) → Does P f args H v (h.getD H)) {OO : OpO} (hOO : SoundO P OO) {ops : Array Oper} : ∀ (l : List Oper) (T : List Value) (H : Heap) (D : Defs) (L : Prop) (T' : List Value) (H' : Heap) (D' : Defs) (L' : Prop),
    rEv3 P call OO ops l T H D L = some (T', H', D', L') → L' → L ∧ Run P ops l T H D (fun T2 H2 D2 => T2 = T' ∧ H2 = H' ∧ D2 = D')
  | [], T, H, D, L, T', H', D', L', h, hL => by
    simp only [rEv3, Option.some.injEq, Prod.mk.injEq] at h
    obtain ⟨h1, h2, h3, h4⟩ := h
    exact ⟨h4 ▸ hL, h1, h2, h3⟩
  | o :: rest, T, H, D, L, T', H', D', L', h, hL => by
    simp only [rEv3] at h
    obtain ⟨hok, h⟩ := cond_opt h
    rcases cond_bool h with ⟨hw, h⟩ | ⟨hw, h⟩
    · split at h
      · rename_i v ob c ho
        obtain ⟨⟨hc', hl⟩, hr⟩ := rEv3_sound hc hOO rest _ _ _ _ _ _ _ _ h hL
        exact ⟨hl, hok, .inl ⟨hw, v, _, D, .of_fresh (hOO.fr _ _ _ _ _ _ ho hc') D, hr⟩⟩
      · rename_i v c ho
        obtain ⟨⟨hc', hl⟩, hr⟩ := rEv3_sound hc hOO rest _ _ _ _ _ _ _ _ h hL
        exact ⟨hl, hok, .inl ⟨hw, v, H, D, .of_quiet D (.of_ev (hOO.rd _ _ _ _ _ ho hc')), hr⟩⟩
      · rename_i v c ho
        obtain ⟨⟨hc', hl⟩, hr⟩ := rEv3_sound hc hOO rest _ _ _ _ _ _ _ _ h hL
        exact ⟨hl, hok, .inl ⟨hw, v, H, D, .of_quiet D (hOO.pure _ _ _ _ _ ho hc' H), hr⟩⟩
      · rename_i v c ho
        obtain ⟨⟨hc', hl⟩, hr⟩ := rEv3_sound hc hOO rest _ _ _ _ _ _ _ _ h hL
        exact ⟨hl, hok, .inl ⟨hw, v, H, D, hOO.same _ _ _ _ _ ho hc' D, hr⟩⟩
      · rename_i v H1 c ho
        obtain ⟨⟨hc', hl⟩, hr⟩ := rEv3_sound hc hOO rest _ _ _ _ _ _ _ _ h hL
        exact ⟨hl, hok, .inl ⟨hw, v, H1, D, hOO.eff _ _ _ _ _ _ ho hc' D, hr⟩⟩
      · split at h
        case h_2 => cases h
        rename_i T1 H1 D1 hx
        obtain ⟨hl, hr⟩ := rEv3_sound hc hOO rest _ _ _ _ _ _ _ _ h hL
        obtain ⟨v, H2, D2, k1, rfl, rfl, rfl⟩ := run_unguard (rEv_sound hc _ _ _ _ _ _ _ hx)
        exact ⟨hl, hok, .inl ⟨hw, v, _, _, k1, hr⟩⟩
    · obtain ⟨hl, hr⟩ := rEv3_sound hc hOO rest _ _ _ _ _ _ _ _ h hL
      exact ⟨hl, hok, .inr ⟨hw, hr⟩⟩

/-- How an operation of a drawing region counts. -/
inductive Stp where
  | pure (v : Value) (c : Option Prop)
  | read (v : Value)
  | readC (v : Value) (c : Prop)
  | same (v : Value) (c : Option Prop)
  | eff (v : Value) (H : Heap) (c : Option Prop)
  | fresh (v : Value) (ob : AObj) (c : Option Prop)

def plus : Option Prop → Prop → Prop
  | none, L => L
  | some c, L => c ∧ L
theorem plus_and {c : Option Prop} {L : Prop} (h : plus c L) : c.getD True ∧ L := by
  cases c with
  | none => exact ⟨trivial, h⟩
  | some c => exact h

def stp (P : Program) (call : CallF) (OO : OpO) (fl : Bool) (o : Oper) (T : List Value) (G H : Heap) (first : Bool) : Option Stp :=
  match OO o (ev T) H with
  | some (.fr v ob c) => bif fl && first then (match OO o (ev T) ⟨H.next, G.l⟩ with
    | some (.fr v ob c) => (match H.get H.next with
      | .dead => some (.fresh v ob (some c))
      | _ => none)
    | _ => none) else some (.eff v (H.push ob) (some c))
  | some (.rd v c) => some (.readC v c)
  | some (.pure v c) => some (.pure v (some c))
  | some (.same v c) => some (.same v (some c))
  | some (.eff v H' c) => some (.eff v H' (some c))
  | none => match kindOf P (ev T) o with
    | .read => match evR P (ev T) G o with
      | some v => bif isRead o.op then some (.read v) else some (.pure v none)
      | none => none
    | .method => match nilM P (ev T) o with
      | some v => some (.pure v none)
      | none => none
    | .empty => match emptyA P (ev T) o with
      | some v => some (.pure v none)
      | none => none
    | .write => match (bif fl && first then freshA P (ev T) H.next o else none) with
      | some (v, ob) => (match H.get H.next with
        | .dead => some (.fresh v ob none)
        | _ => none)
      | none => match evW P (ev T) H o with
        | some (v, H') => some (.eff v H' none)
        | none => none
    | .call => match o.op with
      | .call c => match calleeA P (ev T) c with
        | some (f, args) => match call f args H with
          | some (v, some H') => some (.eff v H' none)
          | some (v, none) => some (.same v none)
          | none => none
        | none => none
      | _ => none
    | .defer => none

def StpOK (P : Program) (o : Oper) (T : List Value) (G H : Heap) (first : Bool) : Stp → Prop
  | .pure v c => c.getD True → SPure P o (ev T) v
  | .read v => evR P (ev T) G o = some v
  | .readC v c => c → evR P (ev T) H o = some v
  | .same v c => c.getD True → ∀ D, SDoes P o (ev T) H D v H D
  | .eff v H' c => c.getD True → ∀ D, SDoes P o (ev T) H D v H' D
  | .fresh v ob c => first = true ∧ (c.getD True → SFresh P o (ev T) G H.next v ob) ∧ H.get H.next = .dead

theorem stp_sound {P : Program} {call : CallF} (hc : ∀ f args H v h, call f args H = some (v, h) → Does P f args H v (h.getD H)) {OO : OpO} (hOO : SoundO P OO) {fl : Bool} {o : Oper} {T : List Value} {G H : Heap} {first : Bool} {x : Stp} (h : stp P call OO fl o T G H first = some x) : StpOK P o T G H first x := by
  unfold stp at h
  split at h
  · rename_i v ob c ho
    rcases cond_bool h with ⟨hfl, h⟩ | ⟨hfl, h⟩
    · simp only [Bool.and_eq_true] at hfl
      split at h
      · rename_i v2 ob2 c2 ho2
        split at h
        · rename_i hdead
          cases h
          refine ⟨hfl.2, fun hc2 H2 hsub => ?_, hdead⟩
          exact hOO.fr _ _ _ _ _ _ ho2 hc2 H2 hsub
        · cases h
      · cases h
    · cases h; exact fun hc2 D => .of_fresh (hOO.fr _ _ _ _ _ _ ho hc2) D
  · rename_i v c ho; cases h; exact hOO.rd _ _ _ _ _ ho
  · rename_i v c ho; cases h; exact hOO.pure _ _ _ _ _ ho
  · rename_i v c ho; cases h; exact hOO.same _ _ _ _ _ ho
  · rename_i v H' c ho; cases h; exact hOO.eff _ _ _ _ _ _ ho
  · split at h
    · split at h
      case h_2 => cases h
      rename_i v hv
      rcases cond_bool h with ⟨hrd, h⟩ | ⟨hrd, h⟩
      · cases h; exact hv
      · cases h; exact fun _ H2 => .of_ev (by rw [evR_noheap hrd H2 G]; exact hv)
    · split at h
      case h_2 => cases h
      rename_i v hv
      cases h; exact fun _ => nilM_sound hv
    · split at h
      case h_2 => cases h
      rename_i v hv
      cases h; exact fun _ => emptyA_sound hv
    · split at h
      · rename_i v ob hfa
        obtain ⟨hfl, hfa⟩ := cond_opt hfa
        simp only [Bool.and_eq_true] at hfl
        split at h
        case h_2 => cases h
        rename_i hdead
        cases h
        exact ⟨hfl.2, fun _ => (freshA_sound hfa).fresh _, hdead⟩
      · split at h
        case h_2 => cases h
        rename_i v H1 hv
        cases h
        exact fun _ D => .of_ev D hv
    · split at h
      case h_2 => cases h
      rename_i c ho
      split at h
      case h_2 => cases h
      rename_i f args hca
      split at h
      case h_3 => cases h
      · rename_i v H1 hv
        cases h
        exact fun _ D => .call ho D hca (hc _ _ _ _ _ hv)
      · rename_i v hv
        cases h
        exact fun _ D => .call ho D hca (hc _ _ _ _ _ hv)
    · cases h

/-- Reads that may come behind an effect: they read the same. -/
def rdsP (P : Program) (bs : Array Nat) (i : Nat) (H : Heap) : List Rd → Prop → Prop
  | [], L => L
  | r :: l, L => bif bit bs i r.i then rdsP P bs i H l L else (evR P (ev r.T) H r.o = some r.v ∧ rdsP P bs i H l L)
theorem rdsP_spec {P : Program} {bs : Array Nat} {i : Nat} {H : Heap} {L : Prop} : ∀ {l : List Rd}, rdsP P bs i H l L → L ∧ ∀ r ∈ l, bit bs i r.i = false → evR P (ev r.T) H r.o = some r.v
  | [], h => ⟨h, fun r hr => by cases hr⟩
  | r :: l, h => by
    simp only [rdsP] at h
    cases hb : bit bs i r.i with
    | true =>
      rw [hb] at h
      obtain ⟨h1, h2⟩ := rdsP_spec (l := l) h
      refine ⟨h1, fun x hx hxb => ?_⟩
      rcases List.mem_cons.1 hx with rfl | hx
      · rw [hb] at hxb; cases hxb
      · exact h2 x hx hxb
    | false =>
      rw [hb] at h
      obtain ⟨h0, h⟩ := h
      obtain ⟨h1, h2⟩ := rdsP_spec (l := l) h
      refine ⟨h1, fun x hx hxb => ?_⟩
      rcases List.mem_cons.1 hx with rfl | hx
      · exact h0
      · exact h2 x hx hxb
/-- A read that may come ahead of an effect. -/
def pstP (P : Program) (bs : Array Nat) (i : Nat) (T : List Value) (o : Oper) (v : Value) : List (Nat × Heap) → Prop → Prop
  | [], L => L
  | p :: l, L => bif bit bs i p.1 then pstP P bs i T o v l L else (evR P (ev T) p.2 o = some v ∧ pstP P bs i T o v l L)
theorem pstP_spec {P : Program} {bs : Array Nat} {i : Nat} {T : List Value} {o : Oper} {v : Value} {L : Prop} : ∀ {l : List (Nat × Heap)}, pstP P bs i T o v l L → L ∧ ∀ p ∈ l, bit bs i p.1 = false → evR P (ev T) p.2 o = some v
  | [], h => ⟨h, fun r hr => by cases hr⟩
  | r :: l, h => by
    simp only [pstP] at h
    cases hb : bit bs i r.1 with
    | true =>
      rw [hb] at h
      obtain ⟨h1, h2⟩ := pstP_spec (l := l) h
      refine ⟨h1, fun x hx hxb => ?_⟩
      rcases List.mem_cons.1 hx with rfl | hx
      · rw [hb] at hxb; cases hxb
      · exact h2 x hx hxb
    | false =>
      rw [hb] at h
      obtain ⟨h0, h⟩ := h
      obtain ⟨h1, h2⟩ := pstP_spec (l := l) h
      refine ⟨h1, fun x hx hxb => ?_⟩
      rcases List.mem_cons.1 hx with rfl | hx
      · exact h0
      · exact h2 x hx hxb

/-- A region that draws, with conditions. -/
def dEv3 (P : Program) (call : CallF) (OO : OpO) (ops : Array Oper) (bs : Array Nat) (fl : Bool) : List Oper → Nat → List Value → Heap → Heap → List (Nat × Heap) → List Rd → List Nat → Nat → Nat → Prop → Option (List Value × Heap × Prop)
  | [], _, T, _, H, _, _, _, _, _, L => some (T, H, L)
  | o :: rest, i, T, G, H, past, reads, fs, cur, pc, L => bif okOper ops T o && (match o.dst with | some d => Nat.blt d T.length | none => true) then
      bif wantedT ops o (T.getD · undef) then
        match stp P call OO fl o T G H past.isEmpty with
        | some (.pure v c) => dEv3 P call OO ops bs fl rest (i + 1) (putA T o.dst v) G H past reads fs cur pc (plus c L)
        | some (.read v) => dEv3 P call OO ops bs fl rest (i + 1) (putA T o.dst v) G H past (⟨i, o, T, v⟩ :: reads) fs (cur + 1) pc (pstP P bs i T o v (past.drop pc) L)
        | some (.readC v c) => bif fs.isEmpty then dEv3 P call OO ops bs fl rest (i + 1) (putA T o.dst v) G H past (⟨i, o, T, v⟩ :: reads) fs (cur + 1) pc (c ∧ pstP P bs i T o v (past.drop pc) L) else none
        | some (.eff v H' c) => bif past.all (fun p => bit bs i p.1) && fs.all (fun j => bit bs i j) then
            dEv3 P call OO ops bs fl rest (i + 1) (putA T o.dst v) H' H' ((i, G) :: past) reads fs 0 0 (plus c (rdsP P bs i H' reads L)) else none
        | some (.same v c) => bif past.all (fun p => bit bs i p.1) && fs.isEmpty then
            dEv3 P call OO ops bs fl rest (i + 1) (putA T o.dst v) H H ((i, G) :: past) reads fs cur (pc + 1) (plus c (rdsP P bs i H (reads.drop cur) L)) else none
        | some (.fresh v ob c) => dEv3 P call OO ops bs fl rest (i + 1) (putA T o.dst v) G (H.push ob) past reads (i :: fs) cur pc (plus c L)
        | none => none
      else dEv3 P call OO ops bs fl rest (i + 1) (putA T o.dst undef) G H past reads fs cur pc L
    else none

/-- The conditions only grow. -/
theorem dEv3_L {P : Program} {call : CallF} {OO : OpO} {ops : Array Oper} {bs : Array Nat} {fl : Bool} : ∀ (l : List Oper) (i : Nat) (T : List Value) (G H : Heap) (past : List (Nat × Heap)) (reads : List Rd) (fs : List Nat) (cur pc : Nat) (L : Prop) (T' : List Value) (H' : Heap) (L' : Prop),
    dEv3 P call OO ops bs fl l i T G H past reads fs cur pc L = some (T', H', L') → L' → L
  | [], i, T, G, H, past, reads, fs, cur, pc, L, T', H', L', h, hL => by
    simp only [dEv3, Option.some.injEq, Prod.mk.injEq] at h
    obtain ⟨h1, h2, h3⟩ := h
    exact h3 ▸ hL
  | o :: rest, i, T, G, H, past, reads, fs, cur, pc, L, T', H', L', h, hL => by
    simp only [dEv3] at h
    obtain ⟨hok, h⟩ := cond_opt h
    rcases cond_bool h with ⟨hw, h⟩ | ⟨hw, h⟩
    · split at h
      · exact (plus_and (dEv3_L rest _ _ _ _ _ _ _ _ _ _ _ _ _ h hL)).2
      · exact (pstP_spec (dEv3_L rest _ _ _ _ _ _ _ _ _ _ _ _ _ h hL)).1
      · obtain ⟨_, h⟩ := cond_opt h
        exact (pstP_spec (dEv3_L rest _ _ _ _ _ _ _ _ _ _ _ _ _ h hL).2).1
      · obtain ⟨_, h⟩ := cond_opt h
        exact (rdsP_spec (plus_and (dEv3_L rest _ _ _ _ _ _ _ _ _ _ _ _ _ h hL)).2).1
      · obtain ⟨_, h⟩ := cond_opt h
        exact (rdsP_spec (plus_and (dEv3_L rest _ _ _ _ _ _ _ _ _ _ _ _ _ h hL)).2).1
      · exact (plus_and (dEv3_L rest _ _ _ _ _ _ _ _ _ _ _ _ _ h hL)).2
      · cases h
    · exact dEv3_L rest _ _ _ _ _ _ _ _ _ _ _ _ _ h hL

theorem dEv3_sound {P : Program} {call : CallF} (hc : ∀ f args H v h, call f args H = some (v, h) → Does P f args H v (h.getD H)) {OO : OpO} (hOO : SoundO P OO) {ops : Array Oper} {bs : Array Nat} {fl : Bool} (D : Defs) : ∀ (l : List Oper) (i : Nat) (T : List Value) (G H : Heap) (past : List (Nat × Heap)) (reads : List Rd) (fs : List Nat) (cur pc : Nat) (L : Prop) (T' : List Value) (H' : Heap) (L' : Prop),
    (fs = [] → G = H) → (∀ r ∈ reads.take cur, SQuietM P r.o (ev r.T) G r.v) → (∀ p ∈ past.take pc, p.2 = G) →
    dEv3 P call OO ops bs fl l i T G H past reads fs cur pc L = some (T', H', L') → L' → L ∧ DRun P ops bs D l i T G H past reads fs (fun T2 H2 => T2 = T' ∧ H2 = H')
  | [], i, T, G, H, past, reads, fs, cur, pc, L, T', H', L', i1, i2, i3, h, hL => by
    simp only [dEv3, Option.some.injEq, Prod.mk.injEq] at h
    obtain ⟨h1, h2, h3⟩ := h
    exact ⟨h3 ▸ hL, h1, h2⟩
  | o :: rest, i, T, G, H, past, reads, fs, cur, pc, L, T', H', L', i1, i2, i3, h, hL => by
    simp only [dEv3] at h
    obtain ⟨hok, h⟩ := cond_opt h
    simp only [Bool.and_eq_true] at hok
    have hdst : ∀ d, o.dst = some d → d < T.length := fun d hd => by
      have := hok.2
      rw [hd] at this
      simpa [Nat.blt_eq] using this
    rcases cond_bool h with ⟨hw, h⟩ | ⟨hw, h⟩
    · split at h
      · rename_i v c hs
        have ok := stp_sound hc hOO hs
        obtain ⟨hpl, hr⟩ := dEv3_sound hc hOO D rest _ _ _ _ _ _ _ _ _ _ _ _ _ i1 i2 i3 h hL
        obtain ⟨hcc, hl⟩ := plus_and hpl
        exact ⟨hl, hok.1, hdst, .inl ⟨hw, v, ok hcc, hr⟩⟩
      · rename_i v hs
        have hv : evR P (ev T) G o = some v := stp_sound hc hOO hs
        obtain ⟨hl, hr⟩ := dEv3_sound hc hOO D rest _ _ _ _ _ _ _ _ _ _ _ _ _ i1 (fun r hr => by
            rw [List.take_succ_cons] at hr
            rcases List.mem_cons.1 hr with rfl | hr
            · exact .of_ev hv
            · exact i2 r hr) i3 h hL
        obtain ⟨hl, hp⟩ := pstP_spec hl
        refine ⟨hl, hok.1, hdst, .inr (.inl ⟨hw, v, .of_ev hv, fun p hpm hbit => ?_, hr⟩)⟩
        rcases mem_split (n := pc) hpm with hm | hm
        · rw [i3 p hm]; exact .of_ev hv
        · exact .of_ev (hp p hm hbit)
      · rename_i v c hs
        have ok := stp_sound hc hOO hs
        obtain ⟨hb, h⟩ := cond_opt h
        have hfs : fs = [] := by simpa using hb
        have hGH := i1 hfs
        have hcc : c := (dEv3_L rest _ _ _ _ _ _ _ _ _ _ _ _ _ h hL).1
        have hv : evR P (ev T) G o = some v := by rw [hGH]; exact ok hcc
        obtain ⟨hl, hr⟩ := dEv3_sound hc hOO D rest _ _ _ _ _ _ _ _ _ _ _ _ _ i1 (fun r hr => by
            rw [List.take_succ_cons] at hr
            rcases List.mem_cons.1 hr with rfl | hr
            · exact .of_ev hv
            · exact i2 r hr) i3 h hL
        obtain ⟨hl, hp⟩ := pstP_spec hl.2
        refine ⟨hl, hok.1, hdst, .inr (.inl ⟨hw, v, .of_ev hv, fun p hpm hbit => ?_, hr⟩)⟩
        rcases mem_split (n := pc) hpm with hm | hm
        · rw [i3 p hm]; exact .of_ev hv
        · exact .of_ev (hp p hm hbit)
      · rename_i v H1 c hs
        have ok := stp_sound hc hOO hs
        obtain ⟨hb, h⟩ := cond_opt h
        simp only [Bool.and_eq_true, List.all_eq_true] at hb
        obtain ⟨hpl, hr⟩ := dEv3_sound hc hOO D rest _ _ _ _ _ _ _ _ _ _ _ _ _ (fun _ => rfl) (fun r hr => by simp at hr) (fun p hp => by simp at hp) h hL
        obtain ⟨hcc, hl⟩ := plus_and hpl
        obtain ⟨hl, hrd⟩ := rdsP_spec hl
        exact ⟨hl, hok.1, hdst, .inr (.inr (.inl ⟨hw, v, H1, ok hcc D, hb.1, hb.2, (fun r hr hbit => .of_ev (hrd r hr hbit)), hr⟩))⟩
      · rename_i v c hs
        have ok := stp_sound hc hOO hs
        obtain ⟨hb, h⟩ := cond_opt h
        simp only [Bool.and_eq_true] at hb
        have hfs : fs = [] := by simpa using hb.2
        have hGH := i1 hfs
        subst hGH
        obtain ⟨hpl, hr⟩ := dEv3_sound hc hOO D rest _ _ _ _ _ _ _ _ _ _ _ _ _ (fun _ => rfl) i2 (fun p hp => by
            rw [List.take_succ_cons] at hp
            rcases List.mem_cons.1 hp with rfl | hp
            · rfl
            · exact i3 p hp) h hL
        obtain ⟨hcc, hl⟩ := plus_and hpl
        obtain ⟨hl, hrd⟩ := rdsP_spec hl
        refine ⟨hl, hok.1, hdst, .inr (.inr (.inl ⟨hw, v, G, ok hcc D, List.all_eq_true.1 hb.1, (fun j hj => by rw [hfs] at hj; cases hj), (fun r hr hbit => ?_), hr⟩))⟩
        rcases mem_split (n := cur) hr with hm | hm
        · exact i2 r hm
        · exact .of_ev (hrd r hm hbit)
      · rename_i v ob c hs
        obtain ⟨hf, hsf, hdead⟩ := stp_sound hc hOO hs
        obtain ⟨hpl, hr⟩ := dEv3_sound hc hOO D rest _ _ _ _ _ _ _ _ _ _ _ _ _ (fun h => by cases h) i2 i3 h hL
        obtain ⟨hcc, hl⟩ := plus_and hpl
        exact ⟨hl, hok.1, hdst, .inr (.inr (.inr (.inl ⟨hw, by simpa using hf, v, ob, hsf hcc, hdead, hr⟩)))⟩
      · cases h
    · obtain ⟨hl, hr⟩ := dEv3_sound hc hOO D rest _ _ _ _ _ _ _ _ _ _ _ _ _ i1 i2 i3 h hL
      exact ⟨hl, hok.1, hdst, .inr (.inr (.inr (.inr ⟨hw, hr⟩)))⟩
end Go.Abs

namespace Go.Abs
open Go.RowKit (Below)

structure St3 extends St where
  L : Prop

def exF3 (P : Program) (call : CallF) (OO : OpO) (run : Code → St3 → Option (Ex × St3)) (c : Code) (s : St3) : Option (Ex × St3) :=
  match c with
  | .skip => some (.normal, s)
  | .region _ ops false => match rEv3 P call OO ops ops.toList s.T s.H s.D s.L with
    | some (T, H, D, L) => some (.normal, ⟨⟨T, H, D⟩, L⟩)
    | none => none
  | .region _ ops true => bif regOK ops then (match dEv3 P call OO ops (Region.before ops) false ops.toList 0 s.T s.H s.H [] [] [] 0 0 s.L with
    | some (T, H, L) => some (.normal, ⟨⟨T, H, s.D⟩, L⟩)
    | none => match dEv3 P call OO ops (Region.before ops) true ops.toList 0 s.T s.H s.H [] [] [] 0 0 s.L with
      | some (T, H, L) => some (.normal, ⟨⟨T, H, s.D⟩, L⟩)
      | none => none) else none
  | .seq x y => match run x s with
    | some (.normal, s') => run y s'
    | r => r
  | .cond c x y => bif okOperand c then (match ev s.T c with
    | .bool true => run x s
    | .bool false => run y s
    | _ => none) else none
  | .block id b => match run b s with
    | some (.exit id', s') => bif Nat.beq id' id then some (.normal, s') else some (.exit id', s')
    | r => r
  | .loop b => match run b s with
    | some (.normal, s') => run (.loop b) s'
    | r => r
  | .exit id => some (.exit id, s)
  | .ret => some (.ret, s)
  | _ => none

def ex3 (P : Program) (call : CallF) (OO : OpO) (n : Nat) : Code → St3 → Option (Ex × St3) :=
  Nat.rec (motive := fun _ => Code → St3 → Option (Ex × St3)) (fun _ _ => none) (fun _ ih => exF3 P call OO ih) n

theorem ex3_succ (P : Program) (call : CallF) (OO : OpO) (n : Nat) (c : Code) (s : St3) : ex3 P call OO (n + 1) c s = exF3 P call OO (ex3 P call OO n) c s := rfl

def Is3 (r : Ex × St3) : APost := Is (r.1, r.2.toSt)
theorem Is3.mk' (e : Ex) (s : St3) : Is3 (e, s) e.to s.T s.H s.D := ⟨rfl, rfl, rfl, rfl⟩

theorem ex3_sound {P : Program} (hm : P.follows .mixedOrders = true) {call : CallF} (hcall : ∀ f args H v h, call f args H = some (v, h) → Does P f args H v (h.getD H)) {OO : OpO} (hOO : SoundO P OO) : ∀ (n : Nat) (c : Code) (s : St3) (r : Ex × St3), ex3 P call OO n c s = some r → r.2.L → s.L ∧ Awp P c (Is3 r) s.T s.H s.D := by
  intro n
  induction n using Nat.strongRecOn with
  | _ n ih =>
    intro c s r h hL
    cases n with
    | zero => cases h
    | succ n =>
      have ihn : ∀ c s r, ex3 P call OO n c s = some r → r.2.L → s.L ∧ Awp P c (Is3 r) s.T s.H s.D := ih n (Nat.lt_succ_self n)
      rw [ex3_succ] at h
      cases c with
      | skip => simp only [exF3, Option.some.injEq] at h; subst h; exact ⟨hL, awp_skip (Is3.mk' _ _)⟩
      | exit id => simp only [exF3, Option.some.injEq] at h; subst h; exact ⟨hL, awp_exit (Is3.mk' _ _)⟩
      | ret => simp only [exF3, Option.some.injEq] at h; subst h; exact ⟨hL, awp_ret (Is3.mk' _ _)⟩
      | region id ops draw =>
        cases draw with
        | false =>
          simp only [exF3] at h
          split at h
          case h_2 => cases h
          rename_i T' H' D' L' hr
          simp only [Option.some.injEq] at h; subst h
          obtain ⟨hl, hrun⟩ := rEv3_sound hcall hOO ops.toList s.T s.H s.D s.L T' H' D' L' hr hL
          refine ⟨hl, awp_mono (Q := fun e T2 H2 D2 => e = .normal ∧ T2 = T' ∧ H2 = H' ∧ D2 = D') (awp_region ?_) (fun e T H D h => h)⟩
          simpa using hrun
        | true =>
          simp only [exF3] at h
          obtain ⟨hreg, h⟩ := cond_opt h
          obtain ⟨fl, T', H', L', hr, h⟩ : ∃ fl T' H' L', dEv3 P call OO ops (Region.before ops) fl ops.toList 0 s.T s.H s.H [] [] [] 0 0 s.L = some (T', H', L') ∧ some (Ex.normal, (⟨⟨T', H', s.D⟩, L'⟩ : St3)) = some r := by
            split at h
            · rename_i T' H' L' hr
              exact ⟨false, T', H', L', hr, h⟩
            · split at h
              · rename_i T' H' L' hr
                exact ⟨true, T', H', L', hr, h⟩
              · cases h
          simp only [Option.some.injEq] at h; subst h
          obtain ⟨hl, hrun⟩ := dEv3_sound hcall hOO s.D ops.toList 0 s.T s.H s.H [] [] [] 0 0 s.L T' H' L' (fun _ => rfl) (fun r hr => by simp at hr) (fun p hp => by simp at hp) hr hL
          refine ⟨hl, awp_mono (Q := fun e T2 H2 D2 => e = .normal ∧ T2 = T' ∧ H2 = H' ∧ D2 = s.D) (awp_draw hm hreg ?_) (fun e T H D h => h)⟩
          simpa using hrun
      | seq x y =>
        simp only [exF3] at h
        split at h
        · rename_i s' hx
          obtain ⟨hl2, h2⟩ := ihn _ _ _ h hL
          obtain ⟨hl1, h1⟩ := ihn _ _ _ hx hl2
          refine ⟨hl1, awp_seq (awp_mono h1 ?_)⟩
          rintro e T H D ⟨rfl, rfl, rfl, rfl⟩
          exact h2
        · rename_i hne
          obtain ⟨hl1, h1⟩ := ihn _ _ _ h hL
          refine ⟨hl1, awp_seq (awp_mono h1 ?_)⟩
          rintro e T H D ⟨rfl, rfl, rfl, rfl⟩
          obtain ⟨e, s'⟩ := r
          cases e with
          | normal => exact absurd h (hne s')
          | exit id => exact Is3.mk' _ _
          | ret => exact Is3.mk' _ _
      | cond c x y =>
        simp only [exF3] at h
        obtain ⟨hok, h⟩ := cond_opt h
        split at h
        · rename_i hc; obtain ⟨hl, h1⟩ := ihn _ _ _ h hL; exact ⟨hl, awp_cond hok hc h1⟩
        · rename_i hc; obtain ⟨hl, h1⟩ := ihn _ _ _ h hL; exact ⟨hl, awp_cond hok hc h1⟩
        · cases h
      | block id b =>
        simp only [exF3] at h
        split at h
        · rename_i id' s' hb
          rcases cond_bool h with ⟨hid, h⟩ | ⟨hid, h⟩
          · simp only [Option.some.injEq] at h; subst h
            obtain ⟨hl, h1⟩ := ihn _ _ _ hb hL
            refine ⟨hl, awp_block (awp_mono h1 ?_)⟩
            rintro e T H D ⟨rfl, rfl, rfl, rfl⟩
            show if id' = id then _ else _
            rw [if_pos (beqN hid)]
            exact Is3.mk' _ _
          · simp only [Option.some.injEq] at h; subst h
            obtain ⟨hl, h1⟩ := ihn _ _ _ hb hL
            refine ⟨hl, awp_block (awp_mono h1 ?_)⟩
            rintro e T H D ⟨rfl, rfl, rfl, rfl⟩
            show if id' = id then _ else _
            rw [if_neg (fun e => by subst e; simp at hid)]
            exact Is3.mk' _ _
        · rename_i hne
          obtain ⟨hl, h1⟩ := ihn _ _ _ h hL
          refine ⟨hl, awp_block (awp_mono h1 ?_)⟩
          rintro e T H D ⟨rfl, rfl, rfl, rfl⟩
          obtain ⟨e, s'⟩ := r
          cases e with
          | exit id' => exact absurd h (hne id' s')
          | normal => exact Is3.mk' _ _
          | ret => exact Is3.mk' _ _
      | loop b =>
        have hlog : s.L := by
          simp only [exF3] at h
          split at h
          · rename_i s' hb
            exact (ihn _ _ _ hb (ihn _ _ _ h hL).1).1
          · exact (ihn _ _ _ h hL).1
        refine ⟨hlog, awp_loop (fun k T H D => k ≤ n + 1 ∧ ∃ L, ex3 P call OO k (.loop b) ⟨⟨T, H, D⟩, L⟩ = some r) (n + 1) ⟨Nat.le_refl _, s.L, by rw [ex3_succ]; exact h⟩ ?_⟩
        rintro k T H D ⟨hk, L, hx⟩
        cases k with
        | zero => cases hx
        | succ k =>
          have ihk : ∀ c s r, ex3 P call OO k c s = some r → r.2.L → s.L ∧ Awp P c (Is3 r) s.T s.H s.D := ih k (by omega)
          rw [ex3_succ] at hx
          simp only [exF3] at hx
          split at hx
          · rename_i s' hb
            refine awp_mono (ihk _ _ _ hb (ihk _ _ _ hx hL).1).2 ?_
            rintro e T' H' D' ⟨rfl, rfl, rfl, rfl⟩
            exact ⟨k, Nat.lt_succ_self k, by omega, s'.L, hx⟩
          · rename_i hne
            refine awp_mono (ihk _ _ _ hx hL).2 ?_
            rintro e T' H' D' ⟨rfl, rfl, rfl, rfl⟩
            obtain ⟨e, s'⟩ := r
            cases e with
            | normal => exact absurd hx (hne s')
            | exit id => exact Is3.mk' _ _
            | ret => exact Is3.mk' _ _
      | scope b => simp [exF3] at h
      | label l => simp [exF3] at h
      | rangeFunc f ps x y => simp [exF3] at h
      | goto l => simp [exF3] at h
      | refuse why => simp [exF3] at h
end Go.Abs

