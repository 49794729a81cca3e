/- BackupKeeps of law 31: Keep and Expire of the program return the lists of the specification, for all days, numbers of days and today; no condition. -/
import Derived.Test.YtafcagkhojhbbaaGreatKAb
import Derived.KernelRfl
set_option linter.unusedSimpArgs false
set_option linter.unusedVariables false
namespace Go.Abs

/-- The words' operations, as the model reckons them. -/
def x64 (a b : Int) : Int := IntKind.u64.wrap ((BitVec.ofInt 64 a ^^^ BitVec.ofInt 64 b).toNat)
def a64 (a b : Int) : Int := IntKind.u64.wrap ((BitVec.ofInt 64 a &&& BitVec.ofInt 64 b).toNat)
def o64 (a b : Int) : Int := IntKind.u64.wrap ((BitVec.ofInt 64 a ||| BitVec.ofInt 64 b).toNat)
def n64 (a : Int) : Int := x64 IntKind.u64.max a
def rot (x : Int) (n : Nat) : Int := o64 (x.fdiv (2 ^ n)) (IntKind.u64.wrap (x * 2 ^ (64 - n)))
def mix (x : Int) (n m : Nat) : Int := x64 (x64 x (rot x n)) (rot x m)

structure S5 where
  a : Int
  b : Int
  c : Int
  d : Int
  e : Int

def S5.arr (s : S5) : Value := .agg #[.int .u64 s.a, .int .u64 s.b, .int .u64 s.c, .int .u64 s.d, .int .u64 s.e]

theorem S5.c2 (s : S5) : Abs.c2 s.arr = true := by simp [S5.arr, Abs.c2, c1, c0]

def rnd (r : Int) (s : S5) : S5 :=
  let c := x64 s.c (IntKind.u64.wrap (240 - 15 * r))
  let a := x64 s.a s.e
  let e := x64 s.e s.d
  let c := x64 c s.b
  let b := s.b
  let d := s.d
  let t0 := a64 (n64 a) b
  let t1 := a64 (n64 b) c
  let t2 := a64 (n64 c) d
  let t3 := a64 (n64 d) e
  let t4 := a64 (n64 e) a
  let a := x64 a t1
  let b := x64 b t2
  let c := x64 c t3
  let d := x64 d t4
  let e := x64 e t0
  let b := x64 b a
  let a := x64 a e
  let d := x64 d c
  let c := n64 c
  ⟨mix a 19 28, mix b 61 39, mix c 1 6, mix d 10 17, mix e 7 41⟩

def perm (s : S5) : S5 := [0,1,2,3,4,5,6,7,8,9,10,11].foldl (fun s (r : Int) => rnd r s) s

end Go.Abs

namespace Go.Abs
open Go.RowKit (Below)

/-- What was said with the smaller names still is. -/
theorem vrel_back {E E' : Env} (hle : E.le E') {v u : Value} (r : VRel E v u) : ∀ {v'}, VRel E' v v' → VRel E v v' := by
  induction r with
  | junk v' => intro v'' _; exact .junk _
  | bool b => intro v' h; cases h; exact .bool b
  | int k n => intro v' h; cases h; exact .int k n
  | string s => intro v' h; cases h; exact .string s
  | ptrNil => intro v' h; cases h; exact .ptrNil
  | ptr id off l e => intro v' h; cases h with | ptr _ _ l' e' => rw [hle _ _ e] at e'; cases e'; exact .ptr id off l e
  | sliceNil => intro v' h; cases h; exact .sliceNil
  | slice id off n c l e hn => intro v' h; cases h with | slice _ _ _ _ l' e' _ => rw [hle _ _ e] at e'; cases e'; exact .slice id off n c l e hn
  | anon a => intro v' h; cases h; exact .anon _
  | anonE a c => intro v' h; cases h; exact .anonE _ _
  | yld id l e => intro v' h; cases h with
    | yld _ l' e' => rw [hle _ _ e] at e'; cases e'; exact .yld id l e
    | func _ _ _ _ _ hf => exact absurd rfl (hf _)
  | mapNil => intro v' h; cases h; exact .mapNil
  | map id l e => intro v' h; cases h with | map _ l' e' => rw [hle _ _ e] at e'; cases e'; exact .map id l e
  | func fn a a' c c' hf h1 h2 _ _ i1 i2 => intro v' h; cases h with
    | func _ _ a2 _ c2 _ k1 k2 k3 k4 => exact .func fn a a2 c c2 hf k1 k2 (fun i => i1 i (k3 i)) (fun i => i2 i (k4 i))
    | junk => exact absurd rfl (hf 0)
    | yld => exact absurd rfl (hf _)
  | nilFunc => intro v' h; cases h; exact .nilFunc
  | iface t v v' _ i => intro x h; cases h with | iface _ _ v2 k => exact .iface t v v2 (i k)
  | nilIface => intro v' h; cases h; exact .nilIface
  | agg a a' h1 _ i => intro v' h; cases h with | agg _ a2 k1 k2 => exact .agg a a2 k1 (fun j => i j (k2 j))
  | tuple0 =>
    intro v' h
    generalize hx : (Value.tuple #[]) = x at h
    cases h with
    | tuple0 => exact .tuple0
    | tuple a2 a3 k1 k2 => cases hx; exact .tuple _ _ k1 (fun j hj => by simp at hj)
    | _ => cases hx
  | tuple a a' h1 _ i =>
    intro v' h
    generalize hx : (Value.tuple a) = x at h
    cases h with
    | tuple0 => cases hx; exact .tuple0
    | tuple a2 a3 k1 k2 => cases hx; exact .tuple _ _ k1 (fun j hj => i j hj (k2 j hj))
    | _ => cases hx

theorem lrel_back {E E' : Env} (hle : E.le E') {cs : List Value} {a a' : Array Value} (r : LRel E cs a) (r' : LRel E' cs a') : LRel E cs a' :=
  ⟨r'.size, fun i => vrel_back hle (r.at_ i) (r'.at_ i)⟩

/-- What was in the heap is as it was. -/
structure Keep (H H' : Heap) : Prop where
  next : H.next ≤ H'.next
  get : ∀ id, id < H.next → H'.get id = H.get id

theorem Keep.refl (H : Heap) : Keep H H := ⟨Nat.le_refl _, fun _ _ => rfl⟩
theorem Keep.trans {H H' H'' : Heap} (h : Keep H H') (h' : Keep H' H'') : Keep H H'' := ⟨Nat.le_trans h.next h'.next, fun id hid => (h'.get id (Nat.lt_of_lt_of_le hid h.next)).trans (h.get id hid)⟩
theorem Keep.push {H H' : Heap} (h : Keep H H') (o : AObj) : Keep H (H'.push o) :=
  h.trans ⟨Nat.le_succ _, fun id hid => by rw [Heap.get_push, if_neg (by omega)]⟩
theorem Keep.put {H H' : Heap} (h : Keep H H') {i : Nat} (hi : H.next ≤ i) (o : AObj) : Keep H (H'.put i o) :=
  ⟨h.next, fun id hid => by rw [Heap.get_put, if_neg (by omega)]; exact h.get id hid⟩

theorem OR.some_of {P : Program} {B : Nat} {E : Env} {w : World} {id : Nat} {o : AObj} (h : OR P B E w id o) (hn : E id = none) : o = .dead := by
  cases o with
  | dead => rfl
  | cells cs e => obtain ⟨l, _, h1, _⟩ := h; rw [hn] at h1; cases h1
  | grow cs e => obtain ⟨l, _, h1, _⟩ := h; rw [hn] at h1; cases h1
  | ro cs => obtain ⟨l, h1, _⟩ := h; rw [hn] at h1; cases h1
  | map es c => obtain ⟨l, _, h1, _⟩ := h; rw [hn] at h1; cases h1
  | lp T c b => obtain ⟨l, _, _, h1, _⟩ := h; rw [hn] at h1; cases h1
  | df => obtain ⟨l, h1, _⟩ := h; rw [hn] at h1; cases h1

theorem OR.back {P : Program} {B : Nat} {E E' : Env} {w w' : World} {id : Nat} {o : AObj} (hle : E.le E') (h : OR P B E w id o) (h' : OR P B E' w' id o) : OR P B E w' id o := by
  cases o with
  | dead => trivial
  | cells cs e =>
    obtain ⟨l, c1, h1, h2, h3, h4, h5⟩ := h
    obtain ⟨l', c2, k1, k2, k3, k4, k5⟩ := h'
    rw [hle _ _ h1] at k1; cases k1
    exact ⟨l, c2, h1, k2, k3, k4, lrel_back hle h5 k5⟩
  | grow cs e =>
    obtain ⟨l, c1, h1, h2, h3, h4, h5, h6, h7, h8⟩ := h
    obtain ⟨l', c2, k1, k2, k3, k4, k5, k6, k7, k8⟩ := h'
    rw [hle _ _ h1] at k1; cases k1
    exact ⟨l, c2, h1, k2, k3, k4, k5, k6, k7, fun i hi => vrel_back hle (h8 i hi) (k8 i hi)⟩
  | ro cs =>
    obtain ⟨l, h1, h2, h3⟩ := h
    obtain ⟨l', k1, k2, k3⟩ := h'
    rw [hle _ _ h1] at k1; cases k1
    refine ⟨l, h1, h2, fun i hi => ?_⟩
    obtain ⟨v1, h4, h5⟩ := h3 i hi
    obtain ⟨v2, k4, k5⟩ := k3 i hi
    exact ⟨v2, k4, vrel_back hle h5 k5⟩
  | map es c =>
    obtain ⟨l, e1, h1, h2, h3, h4, h5⟩ := h
    obtain ⟨l', e2, k1, k2, k3, k4, k5⟩ := h'
    rw [hle _ _ h1] at k1; cases k1
    refine ⟨l, e2, h1, k2, k3, k4, fun i e m he hm => ?_⟩
    have q2 := k5 i e m he hm
    have hlt : i < e1.size := by
      have := (List.getElem?_eq_some_iff.1 he).1
      omega
    have q1 := h5 i e e1[i] he (Array.getElem?_eq_getElem hlt)
    exact ⟨vrel_back hle q1.key q2.key, vrel_back hle q1.val q2.val, q2.born⟩
  | lp T c b =>
    obtain ⟨l, r, g, h1, h2, h3, h4, h5, h6, h7, h8⟩ := h
    obtain ⟨l', r', g', k1, k2, k3, k4, k5, k6, k7, k8⟩ := h'
    rw [hle _ _ h1] at k1; cases k1
    exact ⟨l, r', g', h1, k2, k3, k4, k5, k6, k7, lrel_back hle h8 k8⟩
  | df =>
    obtain ⟨l, h1, h2, h3, h4⟩ := h
    obtain ⟨l', k1, k2, k3, k4⟩ := h'
    rw [hle _ _ h1] at k1; cases k1
    exact ⟨l, h1, k2, k3, k4⟩

/-- The garbage is forgotten. -/
theorem HRel.back {P : Program} {B : Nat} {E E' : Env} {H H' : Heap} {w w' : World} (h : HRel P B E H w) (hle : E.le E') (h' : HRel P B E' H' w') (hk : Keep H H') : HRel P B E H w' := by
  refine ⟨h'.base, h.dom, fun id => ?_, h.inj⟩
  cases he : E id with
  | none => rw [(h.obj id).some_of he]; trivial
  | some l =>
    have := h'.obj id
    rw [hk.get id (h.dom _ _ he)] at this
    exact (h.obj id).back hle this

/-- A function that returns a closed value leaves the heap as it was. -/
theorem Does.val {P : Program} {f : FuncId} {args : List Value} {H H' : Heap} {v : Value} (h : Does P f args H v H') (hk : Keep H H') (hv : c2 v = true) : Does P f args H v H := by
  intro B E w args' hH hA
  refine (h B E w args' hH hA).mono ?_
  rintro e w' ⟨E', v', h1, h2, h3, h4, h5⟩
  exact ⟨E, v', .refl E, hH.back h1 h2 hk, by rw [eq_of_c2 h3 hv]; exact .of_c2 hv, h4, h5⟩

/-- Closed arguments and a closed result: what holds in the empty heap holds in each. -/
theorem Does.closed {P : Program} {f : FuncId} {args : List Value} {H' : Heap} {v : Value} (h : Does P f args ⟨0, []⟩ v H') (ha : args.all c2 = true) (hv : c2 v = true) (H : Heap) : Does P f args H v H := by
  intro B E w args' hH hA
  have h0 : HRel P w.heap.size (fun _ => none) ⟨0, []⟩ w := ⟨Nat.le_refl _, (fun _ _ h => nomatch h), fun _ => trivial, (fun _ _ _ _ h => nomatch h)⟩
  have ha' : LRel (fun _ => none) args args' := by
    refine ⟨hA.size, fun i => ?_⟩
    have := hA.at_ i
    by_cases hi : i < args.length
    · have hc : c2 (args.toArray.getD i undef) = true := by
        have := List.all_eq_true.1 ha (args[i]) (List.getElem_mem hi)
        simpa [Array.getD_eq_getD_getElem?, hi] using this
      rw [eq_of_c2 this hc]; exact .of_c2 hc
    · have e1 : args.toArray.getD i undef = undef := by simp [Array.getD_eq_getD_getElem?, hi]
      have hsz : args.length = args'.size := by simpa using hA.size
      have e2 : args'.getD i undef = undef := by simp [Array.getD, show ¬ i < args'.size by omega]
      rw [e1, e2]; exact .undef _
  refine (h w.heap.size _ w args' h0 ha').mono ?_
  rintro e w' ⟨E', v', h1, h2, h3, h4, h5⟩
  exact ⟨E, v', .refl E, hH.kept h4, by rw [eq_of_c2 h3 hv]; exact .of_c2 hv, h4.mono hH.base, h5⟩

theorem awp_weak {P : Program} {f : FuncId} {fn : Func} {c : Code} (hf : P.funcs[f]? = some fn) (hb : fn.body = some c) {args : List Value} {H : Heap} {R : Value → Heap → Prop}
    (h : Awp P c (fun ex T' H' D' => (ex = .normal ∨ ex = .ret) ∧ (D'.all fun d => quietDefer P d.1 && callable P d.1) = true ∧ ∃ v, resA P fn T' H' = some v ∧ R v H') (args ++ List.replicate (fn.ntmps - args.length) undef) H [])
    (B : Nat) (E : Env) (w : World) (args' : Array Value) (hH : HRel P B E H w) (hA : LRel E args args') :
    Calls P f args' w fun e w' => ∃ E' v v' H', R v H' ∧ E.le E' ∧ HRel P B E' H' w' ∧ VRel E' v v' ∧ Below B w w' ∧ e = .returned v' := by
  have hlen : args.length = args'.size := by simpa using hA.size
  have hT := tmps_of_args (n := fn.ntmps) hA
  refine calls_of_wp_defers hf hb (wp_mono ((wpIn_wide (n := 0)).1 (h B E { tmps := args' ++ Array.replicate (fn.ntmps - args'.size) undef, defers := [] } w none 0 (.inl rfl) ⟨hH, hT, .nil⟩)) ?_)
  rintro e a' w' ⟨E', T', H'', D', ⟨he, hq, v, hr, hR⟩, hle, hS, hbel⟩
  have hl : Leaves P fn a'.tmps (fun e w' => ∃ E' v v' H', R v H' ∧ E.le E' ∧ HRel P B E' H' w' ∧ VRel E' v v' ∧ Below B w w' ∧ e = .returned v') a'.defers .returning w' := by
    refine leaves_quiet ?_ D' a'.defers hS.defs hq
    obtain ⟨v', k1, k2⟩ := resA_sound hr hS.heap hS.tmps.at_
    exact ⟨v', k1, E', v, v', H'', hR, hle, hS.heap, k2, hbel, rfl⟩
  rcases he with rfl | rfl <;> exact hl

/-- A function's body: a closed result. -/
theorem val_of_awp {P : Program} {f : FuncId} {fn : Func} {c : Code} (hf : P.funcs[f]? = some fn) (hb : fn.body = some c) {args : List Value} {H : Heap} {v : Value} (hv : c2 v = true)
    (h : Awp P c (fun ex T' H' D' => (ex = .normal ∨ ex = .ret) ∧ (D'.all fun d => quietDefer P d.1 && callable P d.1) = true ∧ ∃ u, resA P fn T' H' = some u ∧ u = v ∧ Keep H H') (args ++ List.replicate (fn.ntmps - args.length) undef) H []) :
    Does P f args H v H := by
  intro B E w args' hH hA
  refine (awp_weak hf hb h B E w args' hH hA).mono ?_
  rintro e w' ⟨E', u, v', H', ⟨rfl, hk⟩, h1, h2, h3, h4, h5⟩
  exact ⟨E, v', .refl E, hH.back h1 h2 hk, by rw [eq_of_c2 h3 hv]; exact .of_c2 hv, h4, h5⟩

end Go.Abs

namespace Go.Abs
open Go.RowKit (Below)

/-- Frames and heaps of which a few entries are known. -/
def pickT (k : List (Nat × Value)) (X : Nat → Value) (i : Nat) : Value :=
  match k with
  | [] => X i
  | (j, v) :: k => bif Nat.beq j i then v else pickT k X i
def mkT (n : Nat) (k : List (Nat × Value)) (X : Nat → Value) : List Value := (List.range n).map (pickT k X)
def mkH (n : Nat) (k l : List (Nat × AObj)) : Heap := ⟨n, k ++ l⟩

theorem pickT_of {k : List (Nat × Value)} {f : Nat → Value} (h : ∀ p ∈ k, f p.1 = p.2) (i : Nat) : pickT k f i = f i := by
  induction k with
  | nil => rfl
  | cons p k ih =>
    obtain ⟨j, v⟩ := p
    simp only [pickT]
    cases hb : Nat.beq j i with
    | true => have := beqN hb; subst this; exact (h (j, v) (List.mem_cons_self ..)).symm
    | false => exact ih fun p hp => h p (List.mem_cons_of_mem _ hp)

theorem mkT_of {T : List Value} {k : List (Nat × Value)} (h : ∀ p ∈ k, T.getD p.1 undef = p.2) : T = mkT T.length k (T.getD · undef) := by
  refine List.ext_getElem (by simp [mkT]) fun i h1 h2 => ?_
  simp only [mkT, List.getElem_map, List.getElem_range]
  rw [pickT_of h]
  simp [List.getD_eq_getElem?_getD, h1]

theorem mkT_get {n : Nat} {k : List (Nat × Value)} {X : Nat → Value} {t : Nat} (ht : t < n) : (mkT n k X).getD t undef = pickT k X t := by
  simp [mkT, List.getD_eq_getElem?_getD, ht]

theorem mkH_get {H : Heap} {k : List (Nat × AObj)} (h : ∀ p ∈ k, H.get p.1 = p.2) (x : Nat) : (mkH H.next k H.l).get x = H.get x := by
  unfold mkH Heap.get
  induction k with
  | nil => rfl
  | cons p k ih =>
    obtain ⟨j, o⟩ := p
    simp only [List.cons_append, look]
    cases hb : Nat.beq j x with
    | true => have := beqN hb; subst this; exact (h (j, o) (List.mem_cons_self ..)).symm
    | false => exact ih fun p hp => h p (List.mem_cons_of_mem _ hp)

/-- The heap may be said in other words. -/
theorem awp_heap {P : Program} {c : Code} {Q : APost} {T : List Value} {H H2 : Heap} {D : Defs} (hn : H.next ≤ H2.next) (hg : ∀ x, H2.get x = H.get x) (h : Awp P c Q T H2 D) : Awp P c Q T H D :=
  fun B E a w rd n hk hS => h B E a w rd n hk ⟨hS.heap.ext hn hg, hS.tmps, hS.defs⟩

def Ex.tag : Ex → Nat
  | .normal => 0
  | .ret => 1
  | .exit id => id + 2

structure Obs where
  tag : Nat
  vals : List Value
  n : Nat
  next : Nat
  objs : List AObj
  defs : Defs

def obs (ts os : List Nat) (r : Ex × St) : Obs := ⟨r.1.tag, ts.map (r.2.T.getD · undef), r.2.T.length, r.2.H.next, os.map r.2.H.get, r.2.D⟩

theorem mem_zip_map {α β : Type} (f : α → β) : ∀ (l : List α) (p : α × β), p ∈ l.zip (l.map f) → f p.1 = p.2
  | [], p, h => by cases h
  | a :: l, p, h => by
    simp only [List.map_cons, List.zip_cons_cons] at h
    rcases List.mem_cons.1 h with rfl | h
    · rfl
    · exact mem_zip_map f l p h

/-- A piece of code, evaluated, of whose outcome some is kept. -/
theorem awp_piece {P : Program} (hm : P.follows .mixedOrders = true) {O : CallF} (hO : ∀ f args H v h, O f args H = some (v, h) → Does P f args H v (h.getD H)) {m : Nat} {c : Code} {s : St} {ts os : List Nat} {ob : Obs} {Q : APost}
    (h : (ex P O m c s).map (obs ts os) = some ob)
    (hQ : ∀ (e : Ex) (X : Nat → Value) (H : Heap), e.tag = ob.tag → H.next = ob.next → (∀ p ∈ os.zip ob.objs, H.get p.1 = p.2) → Q e.to (mkT ob.n (ts.zip ob.vals) X) H ob.defs) : Awp P c Q s.T s.H s.D := by
  cases hr : ex P O m c s with
  | none => rw [hr] at h; cases h
  | some r =>
    rw [hr] at h
    simp only [Option.map_some, Option.some.injEq] at h
    subst h
    refine awp_mono (ex_sound hm hO m c s r hr) ?_
    rintro e T H D ⟨rfl, rfl, rfl, rfl⟩
    have h1 := hQ r.1 (r.2.T.getD · undef) r.2.H rfl rfl (mem_zip_map _ os)
    have h2 : r.2.T = mkT r.2.T.length (ts.zip (ts.map (r.2.T.getD · undef))) (r.2.T.getD · undef) := mkT_of (mem_zip_map _ ts)
    rw [h2]
    exact h1
end Go.Abs
namespace Go.Abs
/-- The code at a place: 1 is the later, the other branch. -/
def codeAt : List Nat → Code → Code
  | [], c => c
  | b :: p, .seq x y => codeAt p (bif Nat.beq b 0 then x else y)
  | b :: p, .cond _ x y => codeAt p (bif Nat.beq b 0 then x else y)
  | _ :: p, .block _ c => codeAt p c
  | _ :: p, .loop c => codeAt p c
  | _ :: p, .scope c => codeAt p c
  | _, c => c
def codeOf (fn : Func) (p : List Nat) : Code := codeAt p (fn.body.getD .skip)

theorem piece {P : Program} (hm : P.follows .mixedOrders = true) {O : CallF} (hO : ∀ f args H v h, O f args H = some (v, h) → Does P f args H v (h.getD H)) {m : Nat} {c : Code} {T : List Value} {H : Heap} {D : Defs} {ts os : List Nat} {ob : Obs} {Q : APost}
    (h : (ex P O m c ⟨T, H, D⟩).map (obs ts os) = some ob)
    (hQ : ∀ (e : Ex) (X : Nat → Value) (H : Heap), e.tag = ob.tag → H.next = ob.next → (∀ p ∈ os.zip ob.objs, H.get p.1 = p.2) → Q e.to (mkT ob.n (ts.zip ob.vals) X) H ob.defs) : Awp P c Q T H D :=
  awp_piece hm hO h hQ

theorem tag0 {e : Ex} (h : e.tag = 0) : e = .normal := by cases e <;> simp [Ex.tag] at h; rfl
theorem tag1 {e : Ex} (h : e.tag = 1) : e = .ret := by cases e <;> simp [Ex.tag] at h; rfl
end Go.Abs
namespace Go.Abs
structure Fin' where
  tag : Nat
  res : Option Value
  next : Nat
  objs : List AObj
  defs : Defs

def fin (P : Program) (fn : Func) (os : List Nat) (r : Ex × St) : Fin' := ⟨r.1.tag, resA P fn r.2.T r.2.H, r.2.H.next, os.map r.2.H.get, r.2.D⟩

end Go.Abs
namespace Go.Abs
theorem pickT_app (k2 : List (Nat × Value)) (X : Nat → Value) (i : Nat) : ∀ k, pickT (k ++ k2) X i = pickT k (pickT k2 X) i
  | [] => rfl
  | (j, v) :: k => by simp only [List.cons_append, pickT, pickT_app k2 X i k]
/-- What is not needed is forgotten. -/
theorem mkT_app (n : Nat) (k k2 : List (Nat × Value)) (X : Nat → Value) : mkT n (k ++ k2) X = mkT n k (pickT k2 X) := by
  unfold mkT
  exact List.map_congr_left fun i _ => pickT_app k2 X i k
end Go.Abs

namespace Go.Abs
open Go.RowKit (Below)

def obs3 (ts os : List Nat) (r : Ex × St3) : Obs × Prop := (obs ts os (r.1, r.2.toSt), r.2.L)
def fin3 (P : Program) (fn : Func) (os : List Nat) (r : Ex × St3) : Fin' × Prop := (fin P fn os (r.1, r.2.toSt), r.2.L)

section
variable {P : Program} (hm : P.follows .mixedOrders = true) {call : CallF} (hO : ∀ f args H v h, call f args H = some (v, h) → Does P f args H v (h.getD H)) {OO : OpO} (hOO : SoundO P OO)
  {m : Nat} {c : Code} {T : List Value} {H : Heap} {D : Defs} {Q : APost} {L : Prop} (n : Nat) (k : List (Nat × AObj)) (hn : H.next = n) (hk : ∀ p ∈ k, H.get p.1 = p.2)
include hm hO hOO hn hk

theorem piece3 {ts os : List Nat} {ob : Obs} (h : ∀ l, (ex3 P call OO m c ⟨⟨T, mkH n k l, D⟩, True⟩).map (obs3 ts os) = some (ob, L)) (hL : L)
    (hQ : ∀ (e : Ex) (X : Nat → Value) (H : Heap), e.tag = ob.tag → H.next = ob.next → (∀ p ∈ os.zip ob.objs, H.get p.1 = p.2) → Q e.to (mkT ob.n (ts.zip ob.vals) X) H ob.defs) : Awp P c Q T H D := by
  subst hn
  refine awp_heap (H2 := mkH H.next k H.l) (Nat.le_refl _) (mkH_get hk) ?_
  have h := h H.l
  cases hr : ex3 P call OO m c ⟨⟨T, mkH H.next k H.l, D⟩, True⟩ with
  | none => rw [hr] at h; cases h
  | some r =>
    rw [hr] at h
    simp only [Option.map_some, Option.some.injEq, obs3, Prod.mk.injEq] at h
    obtain ⟨h1, h2⟩ := h
    have := (ex3_sound hm hO hOO m c _ r hr (h2 ▸ hL)).2
    subst h1
    refine awp_mono this ?_
    rintro e T H D ⟨rfl, rfl, rfl, rfl⟩
    have h1 := hQ r.1 (r.2.T.getD · undef) r.2.H rfl rfl (mem_zip_map _ os)
    have h2 : r.2.T = mkT r.2.T.length (ts.zip (ts.map (r.2.T.getD · undef))) (r.2.T.getD · undef) := mkT_of (mem_zip_map _ ts)
    show Q r.1.to r.2.T r.2.H r.2.D
    rw [h2]
    exact h1

theorem pieceR3 {fn : Func} {os : List Nat} {ob : Fin'} (h : ∀ l, (ex3 P call OO m c ⟨⟨T, mkH n k l, D⟩, True⟩).map (fin3 P fn os) = some (ob, L)) (hL : L)
    (hQ : ∀ (e : Ex) (T : List Value) (H : Heap), e.tag = ob.tag → resA P fn T H = ob.res → H.next = ob.next → (∀ p ∈ os.zip ob.objs, H.get p.1 = p.2) → Q e.to T H ob.defs) : Awp P c Q T H D := by
  subst hn
  refine awp_heap (H2 := mkH H.next k H.l) (Nat.le_refl _) (mkH_get hk) ?_
  have h := h H.l
  cases hr : ex3 P call OO m c ⟨⟨T, mkH H.next k H.l, D⟩, True⟩ with
  | none => rw [hr] at h; cases h
  | some r =>
    rw [hr] at h
    simp only [Option.map_some, Option.some.injEq, fin3, Prod.mk.injEq] at h
    obtain ⟨h1, h2⟩ := h
    have := (ex3_sound hm hO hOO m c _ r hr (h2 ▸ hL)).2
    subst h1
    refine awp_mono this ?_
    rintro e T H D ⟨rfl, rfl, rfl, rfl⟩
    exact hQ r.1 r.2.T r.2.H rfl rfl rfl (mem_zip_map _ os)
end

/-- What holds of a function in a heap of its own holds in each heap that gives as much. -/
def Imp (P : Program) (args : List Value) (H : Heap) (args0 : List Value) (H0 : Heap) : Prop :=
  ∀ (B : Nat) (E : Env) (w : World) (args' : Array Value), HRel P B E H w → LRel E args args' → ∃ E0, HRel P w.heap.size E0 H0 w ∧ LRel E0 args0 args'

theorem frame_val {P : Program} {f : FuncId} {args args0 : List Value} {H H0 H' : Heap} {v : Value} (h : Does P f args0 H0 v H') (hv : c2 v = true) (hi : Imp P args H args0 H0) : Does P f args H v H := by
  intro B E w args' hH hA
  obtain ⟨E0, h0, ha0⟩ := hi B E w args' hH hA
  refine (h w.heap.size E0 w args' h0 ha0).mono ?_
  rintro e w' ⟨E', v', h1, h2, h3, h4, h5⟩
  exact ⟨E, v', .refl E, hH.kept h4, by rw [eq_of_c2 h3 hv]; exact .of_c2 hv, h4.mono hH.base, h5⟩

theorem frame_new {P : Program} {f : FuncId} {args args0 : List Value} {H H0 H' : Heap} {id n k : Nat} {cs : List Value} {e : TypeId} (h : Does P f args0 H0 (.slice (some ⟨id, 0, none⟩) n k) H') (hg : H'.get id = .grow cs e) (hc : ∀ v ∈ cs, c2 v = true) (hi : Imp P args H args0 H0) :
    Does P f args H (.slice (some ⟨H.next, 0, none⟩) n k) (H.push (.grow cs e)) := by
  intro B E w args' hH hA
  obtain ⟨E0, h0, ha0⟩ := hi B E w args' hH hA
  refine (h w.heap.size E0 w args' h0 ha0).mono ?_
  rintro en w' ⟨E', v', h1, h2, h3, h4, h5⟩
  cases h3 with
  | slice _ _ _ _ l hl hn =>
    have ho := h2.obj id
    rw [hg] at ho
    obtain ⟨l', c', k1, k2, k3, k4, k5, k6, k7, k8⟩ := ho
    rw [hl] at k1; cases k1
    have hkept := hH.kept h4
    have hle := Env.le_add (l := l) hH.newId
    refine ⟨E.add H.next l, _, hle, ⟨hkept.base, fun i l2 hi2 => ?_, fun i => ?_, fun i j li lj hi2 hj mi mj hbb => ?_⟩, .slice H.next 0 n k l (by simp [Env.add]) hn, h4.mono hH.base, h5⟩
    · unfold Env.add at hi2
      split at hi2
      · rename_i e; subst e; exact Nat.lt_succ_self _
      · exact Nat.lt_succ_of_lt (hH.dom _ _ hi2)
    · rw [Heap.get_push]
      split
      · rename_i e1
        subst e1
        refine ⟨l, c', by simp [Env.add], k2, Nat.le_trans hH.base k3, k4, k5, k6, k7, fun i hi => ?_⟩
        have hm : cs.getD i undef ∈ cs := by rw [List.getD_eq_getElem?_getD, List.getElem?_eq_getElem hi]; exact List.getElem_mem hi
        rw [eq_of_c2 (k8 i hi) (hc _ hm)]
        exact .of_c2 (hc _ hm)
      · exact (hkept.obj i).congr hle (fun _ _ => rfl)
    · have key : ∀ j lj, (E.add H.next l) j = some lj → ((H.push (.grow cs e)).get j).mut = true → j ≠ H.next → E j = some lj ∧ (H.get j).mut = true ∧ lj.blk < w.heap.size := by
        intro j lj hj mj hnj
        rw [Heap.get_push, if_neg (fun e => hnj e.symm)] at mj
        simp only [Env.add, if_neg hnj] at hj
        obtain ⟨l2, q1, _, q3⟩ := (hH.obj j).lt mj
        rw [hj] at q1; cases q1
        exact ⟨hj, mj, q3⟩
      by_cases e1 : i = H.next <;> by_cases e2 : j = H.next
      · rw [e1, e2]
      · exfalso
        obtain ⟨_, _, q⟩ := key j lj hj mj e2
        subst e1
        simp only [Env.add, if_true, Option.some.injEq] at hi2
        subst hi2
        omega
      · exfalso
        obtain ⟨_, _, q⟩ := key i li hi2 mi e1
        subst e2
        simp only [Env.add, if_true, Option.some.injEq] at hj
        subst hj
        omega
      · obtain ⟨q1, q2, _⟩ := key i li hi2 mi e1
        obtain ⟨r1, r2, _⟩ := key j lj hj mj e2
        exact hH.inj i j li lj q1 r1 q2 r2 hbb

theorem row_lt {P : Program} {B : Nat} {E : Env} {H : Heap} {w : World} (h : HRel P B E H w) {id : Nat} {cs : List Value} (hr : H.row id = some cs) {l : Loc} (hl : E id = some l) : l.blk < w.heap.size := by
  have ho := h.obj id
  unfold Heap.row at hr
  cases hg : H.get id with
  | dead => rw [hg] at hr; cases hr
  | map es c => rw [hg] at hr; cases hr
  | lp T c b => rw [hg] at hr; cases hr
  | df => rw [hg] at hr; cases hr
  | ro c => rw [hg] at ho; obtain ⟨l', h1, h2, _⟩ := ho; rw [hl] at h1; cases h1; exact Nat.lt_of_lt_of_le h2 h.base
  | cells c e => rw [hg] at ho; obtain ⟨l', h1, _, h3⟩ := ho.lt rfl; rw [hl] at h1; cases h1; exact h3
  | grow c e => rw [hg] at ho; obtain ⟨l', h1, _, h3⟩ := ho.lt rfl; rw [hl] at h1; cases h1; exact h3

/-- One slice among closed arguments. -/
theorem imp_slice {P : Program} {H : Heap} {pre post : List Value} {id off n c m : Nat} {cs ws : List Value} (hpre : pre.all c2 = true) (hpost : post.all c2 = true) (hr : H.row id = some cs) (hw : (cs.drop off).take m = ws) (hm : off + m ≤ cs.length) (hc : ∀ v ∈ ws, c2 v = true) :
    Imp P (pre ++ .slice (some ⟨id, off, none⟩) n c :: post) H (pre ++ .slice (some ⟨0, 0, none⟩) n capG :: post) ⟨1, [(0, .ro ws)]⟩ := by
  intro B E w args' hH hA
  have hlen : (pre ++ .slice (some ⟨id, off, none⟩) n c :: post).length = args'.size := by simpa using hA.size
  have hat : ∀ i, VRel E ((pre ++ .slice (some ⟨id, off, none⟩) n c :: post).getD i undef) (args'.getD i undef) := fun i => by
    have := hA.at_ i
    simpa [Array.getD_eq_getD_getElem?, List.getD_eq_getElem?_getD] using this
  have hs := hat pre.length
  simp only [List.getD_eq_getElem?_getD, List.getElem?_append_right (Nat.le_refl _), Nat.sub_self, List.getElem?_cons_zero, Option.getD_some] at hs
  generalize hu : args'.getD pre.length undef = u at hs
  cases hs with
  | slice _ _ _ _ l hl hnl =>
    have hblk := row_lt hH hr hl
    refine ⟨fun i => if i = 0 then some ⟨l.blk, l.off + off, relC l c⟩ else none, ⟨Nat.le_refl _, fun i l' h => ?_, fun i => ?_, fun i j li lj hi hj mi => ?_⟩, ⟨?_, fun i => ?_⟩⟩
    · show i < 1
      split at h
      · omega
      · cases h
    · by_cases e : i = 0
      · subst e
        refine ⟨⟨l.blk, l.off + off, relC l c⟩, by simp, hblk, fun i hi => ?_⟩
        have hlt : i < m ∧ i < cs.length - off := by
          have := congrArg List.length hw
          simp at this
          omega
        have hv : cs[off + i]? = some (ws.getD i undef) := by
          rw [← hw, List.getD_eq_getElem?_getD, List.getElem?_take, if_pos hlt.1, List.getElem?_drop, List.getElem?_eq_getElem (by omega)]
          rfl
        obtain ⟨v', h1, h2⟩ := hH.cell hr hl hv
        refine ⟨v', by rw [← h1]; simp [Nat.add_assoc], ?_⟩
        have hm2 : ws.getD i undef ∈ ws := by rw [List.getD_eq_getElem?_getD, List.getElem?_eq_getElem hi]; exact List.getElem_mem hi
        rw [eq_of_c2 h2 (hc _ hm2)]
        exact .of_c2 (hc _ hm2)
      · have : (⟨1, [(0, .ro ws)]⟩ : Heap).get i = .dead := by
          show look [(0, AObj.ro ws)] i = .dead
          rw [look_cons, if_neg (fun h => e h.symm)]; rfl
        rw [this]; trivial
    · have : i = 0 := by
        by_cases e : i = 0
        · exact e
        · simp [e] at hi
      subst this
      cases mi
    · simpa using hlen
    · have hcl : ∀ (v v' : Value) (E' : Env), VRel E v v' → c2 v = true → VRel E' v v' := fun v v' E' h hc => by rw [eq_of_c2 h hc]; exact .of_c2 hc
      have hi := hat i
      have e0 : (pre ++ .slice (some ⟨0, 0, none⟩) n capG :: post).toArray.getD i undef = (pre ++ .slice (some ⟨0, 0, none⟩) n capG :: post).getD i undef := by simp [Array.getD_eq_getD_getElem?, List.getD_eq_getElem?_getD]
      rw [e0]
      rcases Nat.lt_trichotomy i pre.length with h | h | h
      · simp only [List.getD_eq_getElem?_getD, List.getElem?_append_left h] at hi ⊢
        refine hcl _ _ _ hi ?_
        rw [List.getElem?_eq_getElem h]
        exact List.all_eq_true.1 hpre _ (List.getElem_mem h)
      · subst h
        rw [hu]
        simp only [List.getD_eq_getElem?_getD, List.getElem?_append_right (Nat.le_refl _), Nat.sub_self, List.getElem?_cons_zero, Option.getD_some]
        have := VRel.slice (E := fun i => if i = 0 then some ⟨l.blk, l.off + off, relC l c⟩ else none) 0 0 n capG ⟨l.blk, l.off + off, relC l c⟩ (by simp) (by rw [relC_capG]; exact hnl)
        rw [relC_capG] at this
        exact this
      · have hge : pre.length ≤ i := by omega
        obtain ⟨j, hj⟩ : ∃ j, i - pre.length = j + 1 := ⟨i - pre.length - 1, by omega⟩
        simp only [List.getD_eq_getElem?_getD, List.getElem?_append_right hge, hj, List.getElem?_cons_succ] at hi ⊢
        by_cases hjl : j < post.length
        · refine hcl _ _ _ hi ?_
          rw [List.getElem?_eq_getElem hjl]
          exact List.all_eq_true.1 hpost _ (List.getElem_mem hjl)
        · have : post[j]? = none := List.getElem?_eq_none (by omega)
          rw [this] at hi ⊢
          have h2 : args'.getD i undef = undef := by
            simp only [List.length_append, List.length_cons] at hlen
            simp [Array.getD, show ¬ i < args'.size by omega]
          rw [h2]; exact .undef _
end Go.Abs

namespace Go.Abs
open Go.RowKit (Below)

def noOO : OpO := fun _ _ _ => none
theorem noOO_sound {P : Program} : SoundO P noOO := ⟨(fun _ _ _ _ _ _ h => nomatch h), (fun _ _ _ _ _ h => nomatch h), (fun _ _ _ _ _ h => nomatch h), (fun _ _ _ _ _ h => nomatch h), (fun _ _ _ _ _ _ h => nomatch h)⟩

def orO (a b : OpO) : OpO := fun o ρ H => match a o ρ H with
  | some r => some r
  | none => b o ρ H

theorem orO_sound {P : Program} {a b : OpO} (ha : SoundO P a) (hb : SoundO P b) : SoundO P (orO a b) := by
  have key : ∀ o ρ H r, orO a b o ρ H = some r → a o ρ H = some r ∨ b o ρ H = some r := by
    intro o ρ H r h
    unfold orO at h
    split at h
    · rename_i x hx; cases h; exact .inl hx
    · exact .inr h
  refine ⟨fun o ρ H v ob c h => ?_, fun o ρ H v c h => ?_, fun o ρ H v c h => ?_, fun o ρ H v c h => ?_, fun o ρ H v H' c h => ?_⟩
  · rcases key _ _ _ _ h with h | h
    · exact ha.fr _ _ _ _ _ _ h
    · exact hb.fr _ _ _ _ _ _ h
  · rcases key _ _ _ _ h with h | h
    · exact ha.rd _ _ _ _ _ h
    · exact hb.rd _ _ _ _ _ h
  · rcases key _ _ _ _ h with h | h
    · exact ha.pure _ _ _ _ _ h
    · exact hb.pure _ _ _ _ _ h
  · rcases key _ _ _ _ h with h | h
    · exact ha.same _ _ _ _ _ h
    · exact hb.same _ _ _ _ _ h
  · rcases key _ _ _ _ h with h | h
    · exact ha.eff _ _ _ _ _ _ h
    · exact hb.eff _ _ _ _ _ _ h

/-- Calls by contracts with conditions. -/
inductive CallR where
  | same (v : Value) (c : Prop)
  | eff (v : Value) (H : Heap) (c : Prop)

abbrev CallC := FuncId → List Value → Heap → Option CallR

structure SoundC (P : Program) (s : CallC) : Prop where
  same : ∀ f args H v c, s f args H = some (.same v c) → c → Does P f args H v H
  eff : ∀ f args H v H' c, s f args H = some (.eff v H' c) → c → Does P f args H v H'

def callO (P : Program) (s : CallC) : OpO := fun o ρ H => match o.op with
  | .call c => match calleeA P ρ c with
    | some (f, args) => match s f args H with
      | some (.same v c) => some (.same v c)
      | some (.eff v H' c) => some (.eff v H' c)
      | none => none
    | none => none
  | _ => none

theorem callO_sound {P : Program} {s : CallC} (hs : SoundC P s) : SoundO P (callO P s) := by
  have key : ∀ o ρ H r, callO P s o ρ H = some r → ∃ c f args, o.op = .call c ∧ calleeA P ρ c = some (f, args) ∧ ((∃ v q, s f args H = some (.same v q) ∧ r = .same v q) ∨ (∃ v H' q, s f args H = some (.eff v H' q) ∧ r = .eff v H' q)) := by
    intro o ρ H r h
    unfold callO at h
    split at h
    case h_2 => cases h
    rename_i c ho
    split at h
    case h_2 => cases h
    rename_i f args hc
    refine ⟨c, f, args, ho, hc, ?_⟩
    split at h
    · rename_i v q hq; cases h; exact .inl ⟨v, q, hq, rfl⟩
    · rename_i v H' q hq; cases h; exact .inr ⟨v, H', q, hq, rfl⟩
    · cases h
  refine ⟨fun o ρ H v ob c h => ?_, fun o ρ H v c h => ?_, fun o ρ H v c h => ?_, fun o ρ H v c h hc D => ?_, fun o ρ H v H' c h hc D => ?_⟩
  · obtain ⟨_, _, _, _, _, ⟨_, _, _, h⟩ | ⟨_, _, _, _, h⟩⟩ := key _ _ _ _ h <;> cases h
  · obtain ⟨_, _, _, _, _, ⟨_, _, _, h⟩ | ⟨_, _, _, _, h⟩⟩ := key _ _ _ _ h <;> cases h
  · obtain ⟨_, _, _, _, _, ⟨_, _, _, h⟩ | ⟨_, _, _, _, h⟩⟩ := key _ _ _ _ h <;> cases h
  · obtain ⟨cc, f, args, ho, hca, ⟨v', q, hq, h⟩ | ⟨_, _, _, _, h⟩⟩ := key _ _ _ _ h
    · cases h; exact .call ho D hca (hs.same _ _ _ _ _ hq hc)
    · cases h
  · obtain ⟨cc, f, args, ho, hca, ⟨_, _, _, h⟩ | ⟨v', H1, q, hq, h⟩⟩ := key _ _ _ _ h
    · cases h
    · cases h; exact .call ho D hca (hs.eff _ _ _ _ _ _ hq hc)

/-- A part of a slice with an unknown capacity: the temporary d is set. -/
def sliceU (P : Program) (d : Nat) : OpO := fun o ρ _ => match o.dst with
  | some d' => bif Nat.beq d' d then (match o.op with
    | .slice t x lo hi none => match P.underlying t, ρ x with
      | some (.slice e), .slice (some ⟨id, off, none⟩) n c => match sizeT P e, intOf? (lo.map ρ) 0, intOf? (hi.map ρ) n with
        | some s, some l, some h => some (.pure (.slice (some ⟨id, off + l.toNat * s, none⟩) (h.toNat - l.toNat) (c + l.toNat)) (capG ≤ c ∧ 0 ≤ l ∧ l ≤ h ∧ h ≤ (n : Int) ∧ (l = 0 ∨ l < (n : Int))))
        | _, _, _ => none
      | _, _ => none
    | _ => none) else none
  | none => none

theorem sliceU_sound {P : Program} {d : Nat} : SoundO P (sliceU P d) := by
  have key : ∀ o ρ H r, sliceU P d o ρ H = some r → ∃ v c, r = .pure v c ∧ (c → SPure P o ρ v) := by
    intro o ρ H r h
    unfold sliceU at h
    split at h
    case h_2 => cases h
    obtain ⟨_, h⟩ := cond_opt h
    split at h
    case h_2 => cases h
    rename_i t x lo hi ho
    split at h
    case h_2 => cases h
    rename_i e id off n c hu hv
    split at h
    case h_2 => cases h
    rename_i s l hh hs hl hhi
    cases h
    refine ⟨_, _, rfl, fun ⟨c1, c2, c3, c4, c5⟩ H2 => .of_ev ?_⟩
    obtain ⟨dst, op, type, pos, after, guard⟩ := o
    simp only at ho
    subst ho
    have hb : Nat.blt c capG = false := by
      cases hb : Nat.blt c capG with
      | false => rfl
      | true => have : c < capG := by simpa [Nat.blt_eq] using hb
                omega
    clear h
    have c5' : (decide (l = 0) || decide (l < (n : Int))) = true := by simpa using c5
    simp only [evR, evQ, hu, hv, hs, sliceA, hl, hhi, hb, Option.map_none, cond_false, decide_eq_true c2, decide_eq_true c3, decide_eq_true c4, c5', Bool.and_self, cond_true]
  refine ⟨fun o ρ H v ob c h => ?_, fun o ρ H v c h => ?_, fun o ρ H v c h => ?_, fun o ρ H v c h => ?_, fun o ρ H v H' c h => ?_⟩
  · obtain ⟨_, _, h, k⟩ := key _ _ _ _ h; cases h
  · obtain ⟨_, _, h, k⟩ := key _ _ _ _ h; cases h
  · obtain ⟨_, _, h, k⟩ := key _ _ _ _ h; cases h; exact k
  · obtain ⟨_, _, h, k⟩ := key _ _ _ _ h; cases h
  · obtain ⟨_, _, h, k⟩ := key _ _ _ _ h; cases h

/-- The part of a slice behind its end: nothing, at some place. -/
def sliceE (P : Program) (d : Nat) : OpO := fun o ρ _ => match o.dst with
  | some d' => bif Nat.beq d' d then (match o.op with
    | .slice t x (some lo) none none => match P.underlying t, ρ x, ρ lo with
      | some (.slice e), .slice (some ⟨_, _, none⟩) n _, .int _ l => match sizeT P e with
        | some _ => some (.pure (.slice (some ⟨0, 0, some 1⟩) 0 0) (l = (n : Int)))
        | none => none
      | _, _, _ => none
    | _ => none) else none
  | none => none

theorem sliceE_sound {P : Program} {d : Nat} : SoundO P (sliceE P d) := by
  have key : ∀ o ρ H r, sliceE P d o ρ H = some r → ∃ v c, r = .pure v c ∧ (c → SPure P o ρ v) := by
    intro o ρ H r h
    unfold sliceE at h
    split at h
    case h_2 => cases h
    obtain ⟨_, h⟩ := cond_opt h
    split at h
    case h_2 => cases h
    rename_i t x lo ho
    split at h
    case h_2 => cases h
    rename_i e id off n c k l hu hv hlo
    split at h
    case h_2 => cases h
    rename_i s hs
    cases h
    refine ⟨_, _, rfl, fun hl H2 => ?_⟩
    subst hl
    refine .of_Q fun B E a w hH hr => ?_
    have hx := hr x (by simp [ho, Op.operands])
    have hy := hr lo (by simp [ho, Op.operands])
    rw [hv] at hx
    rw [hlo] at hy
    generalize hcv : a.eval x = u at hx
    generalize hcy : a.eval lo = y at hy
    cases hx with
    | slice _ _ _ _ l hl hn =>
      cases hy
      have h1 : ∀ s' w', (Instr.sliceBounds s' n (relC l c) (some (.int k (n : Int))) none none).run P w' = .ok (n, n, relC l c) w' := fun s' w' =>
        run_sliceBounds w' s' n (relC l c) (some (.int k (n : Int))) none none _ none none n n (relC l c) (.inr ⟨k, rfl, rfl⟩) (.inl ⟨rfl, rfl, rfl, rfl⟩) (.inl ⟨rfl, rfl, rfl⟩) (Nat.le_refl _) hn (Nat.le_refl _)
      obtain ⟨dst, op, type, pos, after, guard⟩ := o
      simp only at ho
      subst ho
      refine ⟨.slice (some (if relC l c = n then ⟨l.blk, l.off + off, none⟩ else (⟨l.blk, l.off + off, none⟩ : Addr).add (n * s))) (n - n) (relC l c - n), ?_, ?_⟩
      · simp only [execOp, hcv, hcy, Instr.sliceAt, Instr.slice, Sem.run_bind, run_underlying hu, Result.andThen_ok, h1, run_sizeOf hs, Sem.run_pure, Option.map_some, Option.map_none]
        congr 4
        split <;> rfl
      · rw [Nat.sub_self]
        exact .anonE _ _
  refine ⟨fun o ρ H v ob c h => ?_, fun o ρ H v c h => ?_, fun o ρ H v c h => ?_, fun o ρ H v c h => ?_, fun o ρ H v H' c h => ?_⟩
  · obtain ⟨_, _, h, k⟩ := key _ _ _ _ h; cases h
  · obtain ⟨_, _, h, k⟩ := key _ _ _ _ h; cases h
  · obtain ⟨_, _, h, k⟩ := key _ _ _ _ h; cases h; exact k
  · obtain ⟨_, _, h, k⟩ := key _ _ _ _ h; cases h
  · obtain ⟨_, _, h, k⟩ := key _ _ _ _ h; cases h
end Go.Abs

namespace Go.Abs
open Go.RowKit (Below)

/-- What appending asks. -/
def AppC (zs k by_ e e' off cc n m off2 : Nat) (cs ws : List Value) : Prop :=
  zs = k + 1 ∧ 0 < m ∧ n + m ≤ 9223372036854775807 ∧ (n + m) * by_ ≤ 140737488355328 ∧ e = e' ∧ off = 0 ∧ cc = capG ∧ n * (k + 1) ≤ cs.length ∧ off2 + m * (k + 1) ≤ ws.length ∧ ∀ v ∈ (ws.drop off2).take (m * (k + 1)), one v = true
def AppN (zs k by_ m off2 : Nat) (ws : List Value) : Prop := zs = k + 1 ∧ 0 < m ∧ m ≤ 9223372036854775807 ∧ m * by_ ≤ 140737488355328 ∧ off2 + m * (k + 1) ≤ ws.length

/-- append of a slice's elements to a slice that has grown: the temporary d is set. -/
def appO (P : Program) (d : Nat) : OpO := fun o ρ H => match o.dst with
  | some d' => bif Nat.beq d' d then (match o.op with
    | .call c => match c.callee with
      | .builtin .append => match c.argTypes.toList, c.args.toList with
        | [sT, xT], [s, x] => match P.underlying sT, P.underlying xT, ρ s, ρ x with
          | some (.slice e), some (.slice _), .slice (some ⟨id, off, none⟩) n cc, .slice (some ⟨id2, off2, none⟩) m _ => match sizeT P e, bytesT P e, zeroT P e, H.get id, H.row id2 with
            | some (k + 1), some by_, some z, .grow cs e', some ws =>
              some (.eff (.slice (some ⟨H.next, 0, none⟩) (n + m) capG) ((H.put id .dead).push (.grow (cs.take (n * (k + 1)) ++ (ws.drop off2).take (m * (k + 1))) e))
                (AppC z.cells.size k by_ e e' off cc n m off2 cs ws))
            | _, _, _, _, _ => none
          | _, _, _, _ => none
        | _, _ => none
      | _ => none
    | _ => none) else none
  | none => none

theorem appO_sound {P : Program} {d : Nat} : SoundO P (appO P d) := by
  have key : ∀ o ρ H r, appO P d o ρ H = some r → ∃ v H' c, r = .eff v H' c ∧ (c → ∀ D, SDoes P o ρ H D v H' D) := by
    intro o ρ H r h
    unfold appO at h
    split at h
    case h_2 => cases h
    obtain ⟨_, h⟩ := cond_opt h
    split at h
    case h_2 => cases h
    rename_i c ho
    split at h
    case h_2 => cases h
    rename_i hcal
    split at h
    case h_2 => cases h
    rename_i sT xT s x hat hargs
    split at h
    case h_2 => cases h
    rename_i e _ id off n cc id2 off2 m cx hu hux hs hx
    split at h
    case h_2 => cases h
    rename_i k by_ z cs e' ws hsz hby hz hg hrow
    cases h
    refine ⟨_, _, _, rfl, fun ⟨c1, c2, c3, c4, c5, c6, c7, c8, c9, c10⟩ D => .of_ev D ?_⟩
    subst c5 c6 c7
    obtain ⟨m, rfl⟩ : ∃ q, m = q + 1 := ⟨m - 1, by omega⟩
    have hsrc : srcA H (k + 1) (.slice (some ⟨id2, off2, none⟩) (m + 1) cx) = some (m + 1, (ws.drop off2).take ((m + 1) * (k + 1))) := by
      have hb : Nat.ble (off2 + (m + 1) * (k + 1)) ws.length = true := by rw [Nat.ble_eq]; exact c9
      simp only [srcA, hrow, hb, cond_true]
    have b0 : Nat.beq z.cells.size (k + 1) = true := by rw [c1]; exact Nat.beq_refl _
    have b1 : fits (n + (m + 1)) by_ = true := by simp only [fits, Bool.and_eq_true, Nat.ble_eq]; exact ⟨c3, c4⟩
    have b2 : Nat.blt capG capG = false := by
      cases hb : Nat.blt capG capG with
      | false => rfl
      | true =>
        rw [Nat.blt_eq] at hb
        exact absurd hb (Nat.lt_irrefl _)
    have b3 : Nat.ble (n * (k + 1)) cs.length = true := by rw [Nat.ble_eq]; exact c8
    have b4 : ((ws.drop off2).take ((m + 1) * (k + 1))).all one = true := List.all_eq_true.2 c10
    have b5 : Nat.beq (m + 1) 0 = false := rfl
    have happ : appB H e k by_ (m + 1) ((ws.drop off2).take ((m + 1) * (k + 1))) (.slice (some ⟨id, 0, none⟩) n capG) = some (.slice (some ⟨H.next, 0, none⟩) (n + (m + 1)) capG, (H.put id .dead).push (.grow (cs.take (n * (k + 1)) ++ (ws.drop off2).take ((m + 1) * (k + 1))) e)) := by
      simp only [appB, b5, b1, b2, hg, b3, b4, Nat.beq_refl, Bool.and_self, cond_true, cond_false]
    obtain ⟨dst', op, type, pos, after, guard⟩ := o
    obtain ⟨callee, args, argTypes⟩ := c
    simp only at ho hcal hat hargs
    subst ho hcal
    have ha : args = #[s, x] := by rw [← Array.toArray_toList (xs := args), hargs]
    have hb : argTypes = #[sT, xT] := by rw [← Array.toArray_toList (xs := argTypes), hat]
    subst ha hb
    simp only [evW, evE, appA, hu, hux, hsz, hby, hz, hs, hx, hsrc, b0, strOk, Bool.and_self, cond_true, happ]
  refine ⟨fun o ρ H v ob c h => ?_, fun o ρ H v c h => ?_, fun o ρ H v c h => ?_, fun o ρ H v c h => ?_, fun o ρ H v H' c h => ?_⟩
  · obtain ⟨_, _, _, h, k⟩ := key _ _ _ _ h; cases h
  · obtain ⟨_, _, _, h, k⟩ := key _ _ _ _ h; cases h
  · obtain ⟨_, _, _, h, k⟩ := key _ _ _ _ h; cases h
  · obtain ⟨_, _, _, h, k⟩ := key _ _ _ _ h; cases h
  · obtain ⟨_, _, _, h, k⟩ := key _ _ _ _ h; cases h; exact k

end Go.Abs

namespace Go.Abs
open Go.RowKit (Below)

structure ObsQ where
  tag : Nat
  vals : List Value
  n : Nat
  heap : Heap
  defs : Defs

def obsQ (ts : List Nat) (r : Ex × St3) : ObsQ × Prop := (⟨r.1.tag, ts.map (r.2.T.getD · undef), r.2.T.length, r.2.H, r.2.D⟩, r.2.L)

end Go.Abs

namespace Go.Abs
open Go.RowKit (Below)

/-- The first n names stay. -/
def leN (n : Nat) (E E' : Env) : Prop := ∀ id l, id < n → E id = some l → E' id = some l
theorem leN.refl (n : Nat) (E : Env) : leN n E E := fun _ _ _ h => h
theorem leN.trans {n : Nat} {E E' E'' : Env} (h : leN n E E') (h' : leN n E' E'') : leN n E E'' := fun id l hi e => h' id l hi (h id l hi e)
theorem leN.of {n : Nat} {E E' : Env} (h : E.le E') : leN n E E' := fun id l _ e => h id l e

/-- What a piece of code comes to, where only the first n names are kept. -/
def Awn (P : Program) (n : Nat) (c : Code) (Q : APost) (T : List Value) (H : Heap) (D : Defs) : Prop :=
  ∀ (B : Nat) (E : Env) (a : Act) (w : World) (rd : Option Nat) (z : Nat), OkC rd c → SRel P B E T H D a w →
    c.wpIn (FR rd) z P (fun ex a' w' => ∃ E' T' H' D', Q ex T' H' D' ∧ leN n E E' ∧ SRel P B E' T' H' D' a' w' ∧ Below B w w') a w

/-- The same state under other names. -/
def Nrm (P : Program) (n : Nat) (T : List Value) (H : Heap) (D : Defs) (T2 : List Value) (H2 : Heap) (D2 : Defs) : Prop :=
  ∀ (B : Nat) (E : Env) (a : Act) (w : World), SRel P B E T H D a w → ∃ E2, leN n E E2 ∧ SRel P B E2 T2 H2 D2 a w

theorem Nrm.refl (P : Program) (n : Nat) (T : List Value) (H : Heap) (D : Defs) : Nrm P n T H D T H D := fun _ E _ _ h => ⟨E, .refl n E, h⟩

section
variable {P : Program} {n : Nat} {Q : APost} {T : List Value} {H : Heap} {D : Defs}

theorem awn_of {c : Code} (h : Awp P c Q T H D) : Awn P n c Q T H D :=
  fun B E a w rd z hk hS => wpIn_mono (h B E a w rd z hk hS) fun _ _ _ ⟨E', T', H', D', h1, h2, h3⟩ => ⟨E', T', H', D', h1, .of h2, h3⟩

theorem awp_of_awn {c : Code} (h : Awn P n c Q T H D) (hn : H.next ≤ n) : Awp P c Q T H D :=
  fun B E a w rd z hk hS => wpIn_mono (h B E a w rd z hk hS) fun _ _ _ ⟨E', T', H', D', h1, h2, h3⟩ => ⟨E', T', H', D', h1, fun id l he => h2 id l (Nat.lt_of_lt_of_le (hS.heap.dom _ _ he) hn) he, h3⟩

theorem awn_nrm {c : Code} {T2 : List Value} {H2 : Heap} {D2 : Defs} (hN : Nrm P n T H D T2 H2 D2) (h : Awn P n c Q T2 H2 D2) : Awn P n c Q T H D := by
  intro B E a w rd z hk hS
  obtain ⟨E2, h1, h2⟩ := hN B E a w hS
  refine wpIn_mono (h B E2 a w rd z hk h2) ?_
  rintro e a' w' ⟨E', T', H', D', k1, k2, k3⟩
  exact ⟨E', T', H', D', k1, h1.trans k2, k3⟩

theorem awn_skip (h : Q .normal T H D) : Awn P n .skip Q T H D := awn_of (awp_skip h)
theorem awn_exit {id : Nat} (h : Q (.exit id) T H D) : Awn P n (.exit id) Q T H D := awn_of (awp_exit h)
theorem awn_seq {x y : Code} (h : Awn P n x (thenA (Awn P n y Q) Q) T H D) : Awn P n (.seq x y) Q T H D := by
  intro B E a w rd z hk hS
  refine wpIn_seq (wpIn_mono (h B E a w rd z hk.seq1 hS) ?_)
  rintro e a' w' ⟨E', T', H', D', h1, h2, h3, h4⟩
  cases e with
  | normal =>
    refine wpIn_mono (h1 B E' a' w' rd z hk.seq2 h3) ?_
    rintro e2 a2 w2 ⟨E2, T2, H2, D2, k1, k2, k3, k4⟩
    exact ⟨E2, T2, H2, D2, k1, h2.trans k2, k3, h4.trans k4⟩
  | _ => exact ⟨E', T', H', D', h1, h2, h3, h4⟩

theorem awn_cond {c : Operand} {x y : Code} {b : Bool} (hok : okOperand c = true) (hc : ev T c = .bool b) (h : Awn P n (bif b then x else y) Q T H D) : Awn P n (.cond c x y) Q T H D := by
  intro B E a w rd z hk hS
  have hr := ev_rel hS.tmps.at_ c hok
  rw [hc] at hr
  have he : a.eval c = .bool b := by
    generalize a.eval c = u at hr
    cases hr; rfl
  refine wpIn_cond he ?_
  have hk := hk.cond b
  cases b <;> exact h B E a w rd z hk hS

theorem awn_block {id : Nat} {c : Code} (h : Awn P n c (inBlockA id Q) T H D) : Awn P n (.block id c) Q T H D := by
  intro B E a w rd z hk hS
  refine wpIn_block (wpIn_mono (h B E a w rd z hk.block hS) ?_)
  rintro e a' w' ⟨E', T', H', D', h1, h2, h3, h4⟩
  cases e with
  | exit id' =>
    simp only [inBlockA, Exit.inBlock] at h1 ⊢
    split
    · rename_i e; rw [if_pos e] at h1; exact ⟨E', T', H', D', h1, h2, h3, h4⟩
    · rename_i e; rw [if_neg e] at h1; exact ⟨E', T', H', D', h1, h2, h3, h4⟩
  | _ => exact ⟨E', T', H', D', h1, h2, h3, h4⟩

/-- A loop: what holds at each round's head, up to names. -/
theorem awn_loop {c : Code} (I : Nat → List Value → Heap → Defs → Prop) (k : Nat) (h0 : ∃ T2 H2 D2, Nrm P n T H D T2 H2 D2 ∧ I k T2 H2 D2)
    (round : ∀ k T H D, I k T H D → Awn P n c (thenA (fun T' H' D' => ∃ m, m < k ∧ ∃ T2 H2 D2, Nrm P n T' H' D' T2 H2 D2 ∧ I m T2 H2 D2) Q) T H D) : Awn P n (.loop c) Q T H D := by
  obtain ⟨T2, H2, D2, hN, h0⟩ := h0
  refine awn_nrm hN ?_
  intro B E a w rd z hk hS
  refine wpIn_loop_rounds (k + 1) ?_
  have key : ∀ k T H D E' a' w', I k T H D → leN n E E' → SRel P B E' T H D a' w' → Below B w w' →
      Code.roundsIn (FR rd) z P c (fun ex a' w' => ∃ E' T' H' D', Q ex T' H' D' ∧ leN n E E' ∧ SRel P B E' T' H' D' a' w' ∧ Below B w w') (k + 1) a' w' := by
    intro k
    induction k using Nat.strongRecOn with
    | _ k ih =>
      intro T H D E' a' w' hI hle hS' hb
      rw [roundsIn_succ]
      refine wpIn_mono (round k T H D hI B E' a' w' rd z hk.loop hS') ?_
      rintro e a2 w2 ⟨E2, T2, H2, D2, k1, k2, k3, k4⟩
      cases e with
      | normal =>
        obtain ⟨m, hm, T3, H3, D3, hN, hI2⟩ := k1
        obtain ⟨E3, q1, q2⟩ := hN B E2 a2 w2 k3
        exact rounds_mono (by omega) (ih m hm T3 H3 D3 E3 a2 w2 hI2 ((hle.trans k2).trans q1) q2 (hb.trans k4))
      | _ => exact ⟨E2, T2, H2, D2, k1, hle.trans k2, k3, hb.trans k4⟩
  exact key k T2 H2 D2 E a w h0 (.refl n E) hS (.refl B w)
end

/-- Values under other names. -/
def ren (σ : Nat → Option Nat) (E : Env) : Env := fun j => (σ j).bind E
def RV (σ : Nat → Option Nat) (v v2 : Value) : Prop := ∀ E u, VRel E v u → VRel (ren σ E) v2 u

theorem RV.closed {σ : Nat → Option Nat} {v : Value} (h : c2 v = true) : RV σ v v := fun E u hv => by rw [eq_of_c2 hv h]; exact .of_c2 h
theorem RV.junk {σ : Nat → Option Nat} {v : Value} : RV σ v jk := fun _ u _ => .junk u
theorem RV.ptr {σ : Nat → Option Nat} {i j off : Nat} (h : σ j = some i) : RV σ (.pointer (some ⟨i, off, none⟩)) (.pointer (some ⟨j, off, none⟩)) := fun E u hv => by
  cases hv with
  | ptr _ _ l hl => exact .ptr j off l (by simp [ren, h, hl])
theorem RV.slice {σ : Nat → Option Nat} {i j off n c : Nat} (h : σ j = some i) : RV σ (.slice (some ⟨i, off, none⟩) n c) (.slice (some ⟨j, off, none⟩) n c) := fun E u hv => by
  cases hv with
  | slice _ _ _ _ l hl hn => exact .slice j off n c l (by simp [ren, h, hl]) hn
theorem RV.anon {σ : Nat → Option Nat} : RV σ (.slice (some ⟨0, 0, some 0⟩) 0 0) (.slice (some ⟨0, 0, some 0⟩) 0 0) := fun E u hv => by
  cases hv with
  | anon a => exact .anon a
theorem RV.anonE {σ : Nat → Option Nat} : RV σ (.slice (some ⟨0, 0, some 1⟩) 0 0) (.slice (some ⟨0, 0, some 1⟩) 0 0) := fun E u hv => by
  cases hv with
  | anonE a c => exact .anonE a c
theorem RV.yld {σ : Nat → Option Nat} {i j : Nat} (h : σ j = some i) : RV σ (.func (.yield (i + 1)) #[] #[]) (.func (.yield (j + 1)) #[] #[]) := fun E u hv => by
  cases hv with
  | yld _ l hl => exact .yld j l (by simp [ren, h, hl])
  | func _ _ _ _ _ hf => exact absurd rfl (hf _)
theorem RV.iface {σ : Nat → Option Nat} {t : TypeId} {v v2 : Value} (h : RV σ v v2) : RV σ (.iface t v) (.iface t v2) := fun E u hv => by
  cases hv with
  | iface _ _ u' hu => exact .iface t v2 u' (h E u' hu)
theorem RV.fn {σ : Nat → Option Nat} {f : FuncId} : RV σ (.func (.func f) #[] #[]) (.func (.func f) #[] #[]) := fun E u hv => by
  cases hv with
  | func _ _ a' _ c' hf h1 h2 h3 h4 => exact .func _ _ a' _ c' hf h1 h2 (fun i => by have := h3 i; simp at this ⊢; rw [eq_of_c2 this (by simp [c2, undef])]; exact .undef _) (fun i => by have := h4 i; simp at this ⊢; rw [eq_of_c2 this (by simp [c2, undef])]; exact .undef _)

theorem RV.pw {σ : Nat → Option Nat} {E : Env} : ∀ {l m : List Value} {us : List Value}, F2 (RV σ) l m → F2 (VRel E) l us → F2 (VRel (ren σ E)) m us
  | _, _, _, .nil, .nil => .nil
  | _, _, _, .cons h t, .cons hv tv => .cons (h E _ hv) (RV.pw t tv)

theorem RV.list {σ : Nat → Option Nat} {E : Env} {l m : List Value} {us : Array Value} (h : F2 (RV σ) l m) (hv : LRel E l us) : LRel (ren σ E) m us := by
  have := ARel.of_F2 (RV.pw h (ARel.F2 hv))
  simpa [LRel] using this

theorem RV.all {σ : Nat → Option Nat} : ∀ {l : List Value}, (∀ v ∈ l, c2 v = true) → F2 (RV σ) l l
  | [], _ => .nil
  | v :: l, h => .cons (.closed (h v (List.mem_cons_self ..))) (RV.all fun x hx => h x (List.mem_cons_of_mem _ hx))

theorem F2.get {α β : Type} {R : α → β → Prop} : ∀ {l : List α} {m : List β}, F2 R l m → ∀ {i : Nat} {b : β}, m[i]? = some b → ∃ a, l[i]? = some a ∧ R a b
  | _, _, .nil, i, b, h => by simp at h
  | _, _, .cons hh t, 0, b, h => by simp at h; subst h; exact ⟨_, rfl, hh⟩
  | _, _, .cons hh t, i + 1, b, h => by obtain ⟨a, h1, h2⟩ := F2.get t (i := i) (b := b) (by simpa using h); exact ⟨a, by simpa using h1, h2⟩

/-- Objects under other names. -/
inductive RO (σ : Nat → Option Nat) : AObj → AObj → Prop
  | dead (o : AObj) : RO σ o .dead
  | cells {cs cs2 : List Value} {e : TypeId} : F2 (RV σ) cs cs2 → RO σ (.cells cs e) (.cells cs2 e)
  | grow {cs cs2 : List Value} {e : TypeId} : F2 (RV σ) cs cs2 → RO σ (.grow cs e) (.grow cs2 e)
  | ro {cs cs2 : List Value} : F2 (RV σ) cs cs2 → RO σ (.ro cs) (.ro cs2)
  | lp {T T2 : List Value} {c : Code} {b : Bool} : F2 (RV σ) T T2 → RO σ (.lp T c b) (.lp T2 c b)
  | df : RO σ .df .df

theorem RO.mut {σ : Nat → Option Nat} {o o2 : AObj} (h : RO σ o o2) (hm : o2.mut = true) : o.mut = true := by
  cases h <;> first | rfl | cases hm

theorem RO.or {σ : Nat → Option Nat} {P : Program} {B : Nat} {E : Env} {w : World} {i j : Nat} {o o2 : AObj} (h : RO σ o o2) (hj : σ j = some i) (ho : OR P B E w i o) : OR P B (ren σ E) w j o2 := by
  cases h with
  | dead => trivial
  | cells hF =>
    obtain ⟨l, cs', h1, h2, h3, h4, h5⟩ := ho
    exact ⟨l, cs', by simp [ren, hj, h1], h2, h3, h4, RV.list hF h5⟩
  | lp hF =>
    obtain ⟨l, r, g, h1, h2, h3, h4, h5, h6, h7, h8⟩ := ho
    exact ⟨l, r, g, by simp [ren, hj, h1], h2, h3, h4, h5, h6, h7, RV.list hF h8⟩
  | df =>
    obtain ⟨l, h1, h2, h3, h4⟩ := ho
    exact ⟨l, by simp [ren, hj, h1], h2, h3, h4⟩
  | grow hF =>
    obtain ⟨l, cs', h1, h2, h3, h4, h5, h6, h7, h8⟩ := ho
    have hl := hF.length
    refine ⟨l, cs', by simp [ren, hj, h1], h2, h3, h4, h5, h6, by omega, fun q hq => ?_⟩
    obtain ⟨x, hx1, hx2⟩ := hF.get (i := q) (List.getElem?_eq_getElem hq)
    have := h8 q (by omega)
    rw [List.getD_eq_getElem?_getD, hx1] at this
    rw [List.getD_eq_getElem?_getD, List.getElem?_eq_getElem hq]
    exact hx2 _ _ this
  | ro hF =>
    obtain ⟨l, h1, h2, h3⟩ := ho
    have hl := hF.length
    refine ⟨l, by simp [ren, hj, h1], h2, fun q hq => ?_⟩
    obtain ⟨v', k1, k2⟩ := h3 q (by omega)
    refine ⟨v', k1, ?_⟩
    obtain ⟨x, hx1, hx2⟩ := hF.get (i := q) (List.getElem?_eq_getElem hq)
    rw [List.getD_eq_getElem?_getD, hx1] at k2
    rw [List.getD_eq_getElem?_getD, List.getElem?_eq_getElem hq]
    exact hx2 _ _ k2

/-- Names given by a list of new and old ones; the first n stay. -/
def find2 : List (Nat × Nat) → Nat → Option Nat
  | [], _ => none
  | (j, i) :: s, x => bif Nat.beq j x then some i else find2 s x
def sg (n : Nat) (s : List (Nat × Nat)) (j : Nat) : Option Nat := bif Nat.blt j n then some j else find2 s j
def olds : List (Nat × Nat) → List Nat
  | [] => []
  | p :: s => p.2 :: olds s
def nodupB : List Nat → Bool
  | [] => true
  | x :: l => l.all (fun y => !Nat.beq x y) && nodupB l
def sgOK (n n2 : Nat) (s : List (Nat × Nat)) : Bool := s.all (fun p => Nat.ble n p.1 && Nat.blt p.1 n2 && Nat.ble n p.2) && Nat.ble n n2 && nodupB (olds s)

theorem find2_mem : ∀ {s : List (Nat × Nat)} {j i : Nat}, find2 s j = some i → (j, i) ∈ s
  | [], j, i, h => by cases h
  | (a, b) :: s, j, i, h => by
    simp only [find2] at h
    cases hb : Nat.beq a j with
    | true => rw [hb] at h; simp at h; subst h; rw [beqN hb]; exact List.mem_cons_self ..
    | false => rw [hb] at h; exact List.mem_cons_of_mem _ (find2_mem h)

theorem mem_olds : ∀ {s : List (Nat × Nat)} {p : Nat × Nat}, p ∈ s → p.2 ∈ olds s
  | q :: s, p, h => by
    rcases List.mem_cons.1 h with rfl | h
    · exact List.mem_cons_self ..
    · exact List.mem_cons_of_mem _ (mem_olds h)

theorem find2_inj : ∀ {s : List (Nat × Nat)} {j j' i : Nat}, nodupB (olds s) = true → find2 s j = some i → find2 s j' = some i → j = j'
  | [], j, j', i, _, h, _ => by cases h
  | (a, b) :: s, j, j', i, hd, h, h' => by
    simp only [olds, nodupB, Bool.and_eq_true, List.all_eq_true] at hd
    have hne : ∀ x, find2 s x = some b → False := fun x hx => by
      have := hd.1 b (mem_olds (find2_mem hx))
      simp at this
    simp only [find2] at h h'
    cases hb : Nat.beq a j with
    | true =>
      rw [hb] at h; simp at h; subst h
      cases hb' : Nat.beq a j' with
      | true => rw [← beqN hb, ← beqN hb']
      | false => rw [hb'] at h'; exact (hne _ h').elim
    | false =>
      rw [hb] at h
      cases hb' : Nat.beq a j' with
      | true => rw [hb'] at h'; simp at h'; subst h'; exact (hne _ h).elim
      | false => rw [hb'] at h'; exact find2_inj hd.2 h h'

theorem sg_lt {n n2 : Nat} {s : List (Nat × Nat)} (hs : sgOK n n2 s = true) {j i : Nat} (h : sg n s j = some i) : j < n2 := by
  simp only [sgOK, Bool.and_eq_true, List.all_eq_true] at hs
  have hn := bleN hs.1.2
  unfold sg at h
  cases hb : Nat.blt j n with
  | true => have : j < n := by simpa [Nat.blt_eq] using hb
            omega
  | false =>
    rw [hb] at h
    have := (hs.1.1 _ (find2_mem h)).1.2
    simpa [Nat.blt_eq] using this

theorem sg_inj {n n2 : Nat} {s : List (Nat × Nat)} (hs : sgOK n n2 s = true) {j j' i : Nat} (h : sg n s j = some i) (h' : sg n s j' = some i) : j = j' := by
  simp only [sgOK, Bool.and_eq_true, List.all_eq_true] at hs
  unfold sg at h h'
  cases hb : Nat.blt j n with
  | true =>
    rw [hb] at h; simp at h; subst h
    cases hb' : Nat.blt j' n with
    | true => rw [hb'] at h'; simp at h'; exact h'.symm
    | false =>
      rw [hb'] at h'
      have h1 := bleN (hs.1.1 _ (find2_mem h')).2
      have h2 : j < n := by simpa [Nat.blt_eq] using hb
      simp only at h1
      omega
  | false =>
    rw [hb] at h
    cases hb' : Nat.blt j' n with
    | true =>
      rw [hb'] at h'; simp at h'; subst h'
      have h1 := bleN (hs.1.1 _ (find2_mem h)).2
      have h2 : j' < n := by simpa [Nat.blt_eq] using hb'
      simp only at h1
      omega
    | false => rw [hb'] at h'; exact find2_inj hs.2 h h'

theorem look_mem : ∀ {l : List (Nat × AObj)} {j : Nat}, look l j = .dead ∨ (j, look l j) ∈ l
  | [], _ => .inl rfl
  | (i, o) :: l, j => by
    rw [look_cons]
    split
    · rename_i e; subst e; exact .inr (List.mem_cons_self ..)
    · rcases look_mem (l := l) (j := j) with h | h
      · exact .inl h
      · exact .inr (List.mem_cons_of_mem _ h)

theorem pickT_F2 {σ : Nat → Option Nat} {E : Env} {X : Nat → Value} {t : Nat} {u : Value} : ∀ {k k2 : List (Nat × Value)}, F2 (fun p q => p.1 = q.1 ∧ RV σ p.2 q.2) k k2 → VRel E (pickT k X t) u → VRel (ren σ E) (pickT k2 (fun _ => jk) t) u
  | _, _, .nil, _ => .junk u
  | (a, v) :: _, (b, v2) :: _, .cons ⟨h1, h2⟩ tl, hv => by
    simp only at h1 h2
    subst h1
    simp only [pickT] at hv ⊢
    cases hb : Nat.beq a t with
    | true => rw [hb] at hv; exact h2 E u hv
    | false => rw [hb] at hv; exact pickT_F2 tl hv

theorem Nrm.mk {P : Program} {n m : Nat} {k : List (Nat × Value)} {X : Nat → Value} {H : Heap} {D : Defs} {os : List (Nat × AObj)} (hg : ∀ p ∈ os, H.get p.1 = p.2) (n2 : Nat) (s : List (Nat × Nat)) {k2 : List (Nat × Value)} {os2 : List (Nat × AObj)} {D2 : Defs} (hs : sgOK n n2 s = true)
    (hT : F2 (fun (p q : Nat × Value) => p.1 = q.1 ∧ RV (sg n s) p.2 q.2) k k2) (hO : F2 (fun (p q : Nat × AObj) => sg n s q.1 = some p.1 ∧ RO (sg n s) p.2 q.2) os os2)
    (hD : F2 (fun (d d2 : FuncId × List Value) => d.1 = d2.1 ∧ F2 (RV (sg n s)) d.2 d2.2) D D2) : Nrm P n (mkT m k X) H D (mkT m k2 (fun _ => jk)) (mkH n2 os2 []) D2 := by
  intro B E a w hS
  have hmem : ∀ q ∈ os2, ∃ i, sg n s q.1 = some i ∧ RO (sg n s) (H.get i) q.2 := by
    clear hS
    induction hO with
    | nil => intro q hq; cases hq
    | @cons a b l m' hh _ ih =>
      intro q hq
      rcases List.mem_cons.1 hq with rfl | hq
      · exact ⟨a.1, hh.1, by rw [hg a (List.mem_cons_self ..)]; exact hh.2⟩
      · exact ih (fun p hp => hg p (List.mem_cons_of_mem _ hp)) q hq
  have hget : ∀ j, (mkH n2 os2 []).get j = .dead ∨ ∃ i, sg n s j = some i ∧ RO (sg n s) (H.get i) ((mkH n2 os2 []).get j) := by
    intro j
    have e : (mkH n2 os2 []).get j = look os2 j := by simp [Heap.get, mkH]
    rw [e]
    rcases look_mem (l := os2) (j := j) with h | h
    · exact .inl h
    · exact .inr (hmem _ h)
  refine ⟨ren (sg n s) E, fun id l hid he => ?_, ⟨hS.heap.base, fun j l hj => ?_, fun j => ?_, fun i j li lj hi hj mi mj hbb => ?_⟩, ⟨?_, fun t => ?_⟩, ?_⟩
  · have : Nat.blt id n = true := by simpa [Nat.blt_eq] using hid
    simp [ren, sg, this, he]
  · unfold ren at hj
    cases hsj : sg n s j with
    | none => rw [hsj] at hj; cases hj
    | some i => exact sg_lt hs hsj
  · rcases hget j with h | ⟨i, h1, h2⟩
    · rw [h]; trivial
    · exact h2.or h1 (hS.heap.obj i)
  · rcases hget i with h | ⟨i', h1, h2⟩
    · rw [h] at mi; cases mi
    rcases hget j with h | ⟨j', k1, k2⟩
    · rw [h] at mj; cases mj
    simp only [ren, h1, k1, Option.bind_some] at hi hj
    have := hS.heap.inj i' j' li lj hi hj (h2.mut mi) (k2.mut mj) hbb
    subst this
    exact sg_inj hs h1 k1
  · have := hS.tmps.size
    simpa [mkT] using this
  · have h1 := hS.tmps.at_ t
    by_cases ht : t < m
    · rw [mkT_get ht] at h1 ⊢
      exact pickT_F2 hT h1
    · have e1 : (mkT m k2 (fun _ => jk)).getD t undef = undef := by simp [mkT, List.getD_eq_getElem?_getD, ht]
      have e2 : a.tmps.getD t undef = undef := by
        have := hS.tmps.size
        simp [mkT] at this
        simp [Array.getD, show ¬ t < a.tmps.size by omega]
      rw [e1, e2]; exact .undef _
  · have h1 := hS.defs
    clear hS hmem hget
    generalize a.defers = ds at h1
    clear hT
    induction hD generalizing ds with
    | nil => cases h1; exact .nil
    | @cons d d2 l m' hh _ ih =>
      cases h1 with
      | cons hd ht =>
        obtain ⟨c', a', q1, q2⟩ := hd
        refine .cons ⟨c', a', ?_, RV.list hh.2 q2⟩ (ih _ ht)
        rw [← hh.1]; exact q1

section
variable {P : Program} (hm : P.follows .mixedOrders = true) {call : CallF} (hO : ∀ f args H v h, call f args H = some (v, h) → Does P f args H v (h.getD H)) {OO : OpO} (hOO : SoundO P OO)
  {m n : Nat} {c : Code} {T : List Value} {H : Heap} {D : Defs} {Q : APost} {L : Prop}
include hm hO hOO

theorem pieceF {fn : Func} {os : List Nat} {ob : Fin'} (h : (ex3 P call OO m c ⟨⟨T, H, D⟩, True⟩).map (fin3 P fn os) = some (ob, L)) (hL : L)
    (hQ : ∀ (e : Ex) (T : List Value) (H : Heap), e.tag = ob.tag → resA P fn T H = ob.res → H.next = ob.next → (∀ p ∈ os.zip ob.objs, H.get p.1 = p.2) → Q e.to T H ob.defs) : Awn P n c Q T H D := by
  cases hr : ex3 P call OO m c ⟨⟨T, H, D⟩, True⟩ with
  | none => rw [hr] at h; cases h
  | some r =>
    rw [hr] at h
    simp only [Option.map_some, Option.some.injEq, fin3, Prod.mk.injEq] at h
    obtain ⟨h1, h2⟩ := h
    have := (ex3_sound hm hO hOO m c _ r hr (h2 ▸ hL)).2
    subst h1
    refine awn_of (awp_mono this ?_)
    rintro e T H D ⟨rfl, rfl, rfl, rfl⟩
    exact hQ r.1 r.2.T r.2.H rfl rfl rfl (mem_zip_map _ os)
end
end Go.Abs

namespace Go.Abs
open Go.RowKit (Below)

/-- The place of an element, the index being within bounds. -/
def idxO (P : Program) (d : Nat) : OpO := fun o ρ _ => match o.dst with
  | some d' => bif Nat.beq d' d then (match o.op with
    | .indexAddr t x i => match P.underlying t, ρ x, ρ i with
      | some (.slice e), .slice (some ⟨id, off, none⟩) n _, .int _ k => match sizeT P e with
        | some s => some (.pure (.pointer (some ⟨id, off + k.toNat * s, none⟩)) (0 ≤ k ∧ k < (n : Int)))
        | none => none
      | _, _, _ => none
    | _ => none) else none
  | none => none

theorem idxO_sound {P : Program} {d : Nat} : SoundO P (idxO P d) := by
  have key : ∀ o ρ H r, idxO P d o ρ H = some r → ∃ v c, r = .pure v c ∧ (c → SPure P o ρ v) := by
    intro o ρ H r h
    unfold idxO at h
    split at h
    case h_2 => cases h
    obtain ⟨_, h⟩ := cond_opt h
    split at h
    case h_2 => cases h
    rename_i t x i ho
    split at h
    case h_2 => cases h
    rename_i e id off n c k0 k hu hv hi
    split at h
    case h_2 => cases h
    rename_i s hs
    cases h
    refine ⟨_, _, rfl, fun ⟨c1, c2⟩ H2 => .of_ev ?_⟩
    obtain ⟨dst, op, type, pos, after, guard⟩ := o
    simp only at ho
    subst ho
    simp only [evR, evQ, hu, hv, hi, hs, decide_eq_true c1, decide_eq_true c2, Bool.and_self, cond_true, Option.map_some]
  refine ⟨fun o ρ H v ob c h => ?_, fun o ρ H v c h => ?_, fun o ρ H v c h => ?_, fun o ρ H v c h => ?_, fun o ρ H v H' c h => ?_⟩
  · obtain ⟨_, _, h, k⟩ := key _ _ _ _ h; cases h
  · obtain ⟨_, _, h, k⟩ := key _ _ _ _ h; cases h
  · obtain ⟨_, _, h, k⟩ := key _ _ _ _ h; cases h; exact k
  · obtain ⟨_, _, h, k⟩ := key _ _ _ _ h; cases h
  · obtain ⟨_, _, h, k⟩ := key _ _ _ _ h; cases h

/-- What a load out of a row gives. -/
def ldR (P : Program) (t : TypeId) (row : Option (List Value)) (off : Nat) : Option Value :=
  match row with
  | none => none
  | some cs =>
    match isAggT P t with
    | some true => match sizeT P t with
      | some n => if off + n ≤ cs.length then some (.agg ((cs.drop off).take n).toArray) else none
      | none => none
    | some false => cs[off]?
    | none => none
theorem loadA_ldR (P : Program) (H : Heap) (t : TypeId) (id off : Nat) : loadA P H t id off = ldR P t (H.row id) off := rfl
def LdC (P : Program) (t : TypeId) (row : Option (List Value)) (off : Nat) (v : Value) : Prop := ldR P t row off = some v
theorem ldC_agg {P : Program} {t : TypeId} {n : Nat} {cs ws : List Value} {off : Nat} (h1 : isAggT P t = some true) (h2 : sizeT P t = some n) (h3 : off + n ≤ cs.length) (h4 : (cs.drop off).take n = ws) : LdC P t (some cs) off (.agg ws.toArray) := by
  unfold LdC ldR
  simp [h1, h2, h3, h4]

/-- A load that gives a value. -/
def ldO (P : Program) (d : Nat) (v : Value) : OpO := fun o ρ H => match o.dst with
  | some d' => bif Nat.beq d' d then (match o.op with
    | .load t a => match ρ a with
      | .pointer (some ⟨id, off, none⟩) => some (.rd v (LdC P t (H.row id) off v))
      | _ => none
    | _ => none) else none
  | none => none

theorem ldO_sound {P : Program} {d : Nat} {v : Value} : SoundO P (ldO P d v) := by
  have key : ∀ o ρ H r, ldO P d v o ρ H = some r → ∃ c, r = .rd v c ∧ (c → evR P ρ H o = some v) := by
    intro o ρ H r h
    unfold ldO at h
    split at h
    case h_2 => cases h
    obtain ⟨_, h⟩ := cond_opt h
    split at h
    case h_2 => cases h
    rename_i t a ho
    split at h
    case h_2 => cases h
    rename_i id off hv
    cases h
    refine ⟨_, rfl, fun c1 => ?_⟩
    obtain ⟨dst, op, type, pos, after, guard⟩ := o
    simp only at ho
    subst ho
    simp only [evR, evQ, hv, loadA_ldR]
    exact c1
  refine ⟨fun o ρ H v ob c h => ?_, fun o ρ H v c h => ?_, fun o ρ H v c h => ?_, fun o ρ H v c h => ?_, fun o ρ H v H' c h => ?_⟩
  · obtain ⟨_, h, k⟩ := key _ _ _ _ h; cases h
  · obtain ⟨_, h, k⟩ := key _ _ _ _ h; cases h; exact k
  · obtain ⟨_, h, k⟩ := key _ _ _ _ h; cases h
  · obtain ⟨_, h, k⟩ := key _ _ _ _ h; cases h
  · obtain ⟨_, h, k⟩ := key _ _ _ _ h; cases h

/-- append of a slice's elements to a slice that has no room. -/
def appE (P : Program) (d : Nat) : OpO := fun o ρ H => match o.dst with
  | some d' => bif Nat.beq d' d then (match o.op with
    | .call c => match c.callee with
      | .builtin .append => match c.argTypes.toList, c.args.toList with
        | [sT, xT], [s, x] => match P.underlying sT, P.underlying xT, ρ s, ρ x with
          | some (.slice e), some (.slice _), .slice (some ⟨_, _, none⟩) 0 0, .slice (some ⟨id2, off2, none⟩) m _ => match sizeT P e, bytesT P e, zeroT P e, H.row id2 with
            | some (k + 1), some by_, some z, some ws =>
              some (.eff (.slice (some ⟨H.next, 0, none⟩) m capG) (H.push (.grow ((ws.drop off2).take (m * (k + 1))) e))
                (AppN z.cells.size k by_ m off2 ws))
            | _, _, _, _ => none
          | _, _, _, _ => none
        | _, _ => none
      | _ => none
    | _ => none) else none
  | none => none

theorem appE_sound {P : Program} {d : Nat} : SoundO P (appE P d) := by
  have key : ∀ o ρ H r, appE P d o ρ H = some r → ∃ v H' c, r = .eff v H' c ∧ (c → ∀ D, SDoes P o ρ H D v H' D) := by
    intro o ρ H r h
    unfold appE at h
    split at h
    case h_2 => cases h
    obtain ⟨_, h⟩ := cond_opt h
    split at h
    case h_2 => cases h
    rename_i c ho
    split at h
    case h_2 => cases h
    rename_i hcal
    split at h
    case h_2 => cases h
    rename_i sT xT s x hat hargs
    split at h
    case h_2 => cases h
    rename_i e _ id1 off1 id2 off2 m cx hu hux hs hx
    split at h
    case h_2 => cases h
    rename_i k by_ z ws hsz hby hz hrow
    cases h
    refine ⟨_, _, _, rfl, fun ⟨c1, c2, c3, c4, c9⟩ D => .of_ev D ?_⟩
    obtain ⟨m, rfl⟩ : ∃ q, m = q + 1 := ⟨m - 1, by omega⟩
    have hsrc : srcA H (k + 1) (.slice (some ⟨id2, off2, none⟩) (m + 1) cx) = some (m + 1, (ws.drop off2).take ((m + 1) * (k + 1))) := by
      have hb : Nat.ble (off2 + (m + 1) * (k + 1)) ws.length = true := by rw [Nat.ble_eq]; exact c9
      simp only [srcA, hrow, hb, cond_true]
    have b0 : Nat.beq z.cells.size (k + 1) = true := by rw [c1]; exact Nat.beq_refl _
    have b1 : fits (m + 1) by_ = true := by simp only [fits, Bool.and_eq_true, Nat.ble_eq]; exact ⟨c3, c4⟩
    have happ : appB H e k by_ (m + 1) ((ws.drop off2).take ((m + 1) * (k + 1))) (.slice (some ⟨id1, off1, none⟩) 0 0) = some (.slice (some ⟨H.next, 0, none⟩) (m + 1) capG, H.push (.grow ((ws.drop off2).take ((m + 1) * (k + 1))) e)) := by
      have b2 : Nat.blt 0 capG = true := by unfold capG; rfl
      have b3 : Nat.beq (m + 1) 0 = false := rfl
      have b4 : Nat.ble (m + 1) 0 = false := rfl
      simp only [appB, b3, Nat.zero_add, b1, b2, b4, srcA, cond_true, cond_false, List.nil_append]
    obtain ⟨dst', op, type, pos, after, guard⟩ := o
    obtain ⟨callee, args, argTypes⟩ := c
    simp only at ho hcal hat hargs
    subst ho hcal
    have ha : args = #[s, x] := by rw [← Array.toArray_toList (xs := args), hargs]
    have hb : argTypes = #[sT, xT] := by rw [← Array.toArray_toList (xs := argTypes), hat]
    subst ha hb
    simp only [evW, evE, appA, hu, hux, hsz, hby, hz, hs, hx, hsrc, b0, strOk, Bool.and_self, cond_true, happ]
  refine ⟨fun o ρ H v ob c h => ?_, fun o ρ H v c h => ?_, fun o ρ H v c h => ?_, fun o ρ H v c h => ?_, fun o ρ H v H' c h => ?_⟩
  · obtain ⟨_, _, _, h, k⟩ := key _ _ _ _ h; cases h
  · obtain ⟨_, _, _, h, k⟩ := key _ _ _ _ h; cases h
  · obtain ⟨_, _, _, h, k⟩ := key _ _ _ _ h; cases h
  · obtain ⟨_, _, _, h, k⟩ := key _ _ _ _ h; cases h
  · obtain ⟨_, _, _, h, k⟩ := key _ _ _ _ h; cases h; exact k
end Go.Abs

namespace Go.Abs
open Go.RowKit (Below)

/-- Names for parts of objects: block, offset and capacity. -/
abbrev Part := Nat → Option (Nat × Nat × Nat)
def IV (s : Part) (E : Env) : Env := fun j => match s j with
  | some (i, o, c) => (E i).map fun l => ⟨l.blk, l.off + o, relC l c⟩
  | none => none
def RI (s : Part) (v v0 : Value) : Prop := ∀ E u, VRel E v u → VRel (IV s E) v0 u

theorem RI.closed {s : Part} {v : Value} (h : c2 v = true) : RI s v v := fun E u hv => by rw [eq_of_c2 hv h]; exact .of_c2 h
theorem RI.junk {s : Part} {v : Value} : RI s v jk := fun _ u _ => .junk u
theorem RI.slice {s : Part} {i j o n c : Nat} (h : s j = some (i, o, c)) : RI s (.slice (some ⟨i, o, none⟩) n c) (.slice (some ⟨j, 0, none⟩) n capG) := fun E u hv => by
  cases hv with
  | slice _ _ _ _ l hl hn =>
    have := VRel.slice (E := IV s E) j 0 n capG ⟨l.blk, l.off + o, relC l c⟩ (by simp [IV, h, hl]) (by rw [relC_capG]; exact hn)
    rw [relC_capG] at this
    exact this
theorem RI.pw {s : Part} {E : Env} : ∀ {l m : List Value} {us : List Value}, F2 (RI s) l m → F2 (VRel E) l us → F2 (VRel (IV s E)) m us
  | _, _, _, .nil, .nil => .nil
  | _, _, _, .cons h t, .cons hv tv => .cons (h E _ hv) (RI.pw t tv)
theorem RI.list {s : Part} {E : Env} {l m : List Value} {us : Array Value} (h : F2 (RI s) l m) (hv : LRel E l us) : LRel (IV s E) m us := by
  have := ARel.of_F2 (RI.pw h (ARel.F2 hv))
  simpa [LRel] using this
theorem RI.agg {s : Part} {l m : List Value} (h : F2 (RI s) l m) : RI s (.agg l.toArray) (.agg m.toArray) := fun E u hv => by
  cases hv with
  | agg _ a' h1 h2 => exact .agg' (RI.list h ⟨h1, h2⟩)
theorem RI.all {s : Part} : ∀ {l : List Value}, (∀ v ∈ l, c2 v = true) → F2 (RI s) l l
  | [], _ => .nil
  | v :: l, h => .cons (.closed (h v (List.mem_cons_self ..))) (RI.all fun x hx => h x (List.mem_cons_of_mem _ hx))

theorem row_env {P : Program} {B : Nat} {E : Env} {H : Heap} {w : World} (h : HRel P B E H w) {id : Nat} {cs : List Value} (hr : H.row id = some cs) : ∃ l, E id = some l := by
  have ho := h.obj id
  cases he : E id with
  | some l => exact ⟨l, rfl⟩
  | none =>
    have := ho.some_of he
    unfold Heap.row at hr
    rw [this] at hr
    cases hr

/-- A state of its own, out of parts of another. -/
theorem imp_gen {P : Program} {args args0 : List Value} {H : Heap} {n : Nat} {os : List (Nat × AObj)} (s : Part) (hs : ∀ j x, s j = some x → j < n) (hA : F2 (RI s) args args0)
    (hO : ∀ p ∈ os, p.2 = .dead ∨ ∃ i o c cs ws ws1, s p.1 = some (i, o, c) ∧ H.row i = some cs ∧ p.2 = .ro ws ∧ (cs.drop o).take ws.length = ws1 ∧ F2 (RI s) ws1 ws ∧ o + ws.length ≤ cs.length) : Imp P args H args0 ⟨n, os⟩ := by
  intro B E w args' hH hAr
  have hobj : ∀ j, OR P w.heap.size (IV s E) w j ((⟨n, os⟩ : Heap).get j) ∧ ((⟨n, os⟩ : Heap).get j).mut = false := by
    intro j
    show OR P w.heap.size (IV s E) w j (look os j) ∧ (look os j).mut = false
    rcases look_mem (l := os) (j := j) with h | h
    · rw [h]; exact ⟨trivial, rfl⟩
    · rcases hO _ h with h1 | ⟨i, o, c, cs, ws, ws1, h1, h2, h3, h4, h5, h6⟩
      · simp only at h1; rw [h1]; exact ⟨trivial, rfl⟩
      · simp only at h1 h3
        rw [h3]
        obtain ⟨l, hl⟩ := row_env hH h2
        have hlt := row_lt hH h2 hl
        refine ⟨⟨⟨l.blk, l.off + o, relC l c⟩, by simp [IV, h1, hl], hlt, fun q hq => ?_⟩, rfl⟩
        obtain ⟨x, hx1, hx2⟩ := h5.get (i := q) (List.getElem?_eq_getElem hq)
        have hv : cs[o + q]? = some x := by
          rw [← h4, List.getElem?_take, if_pos hq, List.getElem?_drop] at hx1
          exact hx1
        obtain ⟨v', k1, k2⟩ := hH.cell h2 hl hv
        refine ⟨v', by rw [← k1]; simp [Nat.add_assoc], ?_⟩
        rw [List.getD_eq_getElem?_getD, List.getElem?_eq_getElem hq]
        exact hx2 _ _ k2
  refine ⟨IV s E, ⟨Nat.le_refl _, fun j l hj => ?_, fun j => (hobj j).1, fun i j li lj hi hj mi => ?_⟩, RI.list hA hAr⟩
  · unfold IV at hj
    split at hj
    · rename_i h; exact hs _ _ h
    · cases hj
  · rw [(hobj i).2] at mi; cases mi
end Go.Abs

namespace Go.Abs
open Go.RowKit (Below)

/-- The first pieces of a sequence, and the rest. -/
def pre : Nat → Code → Code
  | 0, .seq x _ => x
  | k + 1, .seq x y => .seq x (pre k y)
  | _, c => c
def rst : Nat → Code → Code
  | 0, .seq _ y => y
  | k + 1, .seq _ y => rst k y
  | _, _ => .skip
def seqs : Nat → Code → Bool
  | 0, .seq _ _ => true
  | k + 1, .seq _ y => seqs k y
  | _, _ => false

/-- Values under other names, reckoned. -/
def inv2 : List (Nat × Nat) → Nat → Option Nat
  | [], _ => none
  | (j, i) :: s, x => bif Nat.beq i x then some j else inv2 s x
def nameOf (n : Nat) (s : List (Nat × Nat)) (i : Nat) : Option Nat :=
  bif Nat.blt i n then some i else match inv2 s i with
    | some j => match sg n s j with
      | some i' => bif Nat.beq i i' then some j else none
      | none => none
    | none => none
theorem nameOf_sg {n : Nat} {s : List (Nat × Nat)} {i j : Nat} (h : nameOf n s i = some j) : sg n s j = some i := by
  unfold nameOf at h
  cases hb : Nat.blt i n with
  | true => rw [hb] at h; simp at h; subst h; simp [sg, hb]
  | false =>
    rw [hb] at h
    simp only [cond_false] at h
    split at h
    case h_2 => cases h
    split at h
    case h_2 => cases h
    rename_i hs
    obtain ⟨hq, hx⟩ := cond_some h
    subst hx
    rw [hs, beqN hq]

def rnm (n : Nat) (s : List (Nat × Nat)) (v : Value) : Value :=
  match v with
  | .pointer (some ⟨i, o, none⟩) => match nameOf n s i with
    | some j => .pointer (some ⟨j, o, none⟩)
    | none => jk
  | .slice (some ⟨i, o, none⟩) m c => match nameOf n s i with
    | some j => .slice (some ⟨j, o, none⟩) m c
    | none => jk
  | .slice (some ⟨0, 0, some 0⟩) 0 0 => .slice (some ⟨0, 0, some 0⟩) 0 0
  | .slice (some ⟨0, 0, some 1⟩) 0 0 => .slice (some ⟨0, 0, some 1⟩) 0 0
  | .iface t (.pointer (some ⟨i, o, none⟩)) => match nameOf n s i with
    | some j => .iface t (.pointer (some ⟨j, o, none⟩))
    | none => jk
  | .func (.yield (i + 1)) a c => bif a.isEmpty && c.isEmpty then (match nameOf n s i with
    | some j => .func (.yield (j + 1)) #[] #[]
    | none => jk) else jk
  | v => bif c2 v then v else jk

theorem RV.dflt {σ : Nat → Option Nat} (v : Value) : RV σ v (bif c2 v then v else jk) := by
  cases hc : c2 v with
  | true => exact .closed hc
  | false => exact .junk

theorem rnm_RV (n : Nat) (s : List (Nat × Nat)) (v : Value) : RV (sg n s) v (rnm n s v) := by
  unfold rnm
  split
  · split
    · rename_i h; exact .ptr (nameOf_sg h)
    · exact .junk
  · split
    · rename_i h; exact .slice (nameOf_sg h)
    · exact .junk
  · exact .anon
  · exact .anonE
  · split
    · rename_i h; exact .iface (.ptr (nameOf_sg h))
    · exact .junk
  · rename_i i a c
    cases hb : (a.isEmpty && c.isEmpty) with
    | false => exact .junk
    | true =>
      simp only [Bool.and_eq_true, Array.isEmpty_iff] at hb
      obtain ⟨rfl, rfl⟩ := hb
      simp only [cond_true]
      split
      · rename_i h; exact .yld (nameOf_sg h)
      · exact .junk
  · exact RV.dflt _

def rnT (n : Nat) (s : List (Nat × Nat)) : List (Nat × Value) → List (Nat × Value)
  | [] => []
  | (t, v) :: k => (t, rnm n s v) :: rnT n s k
theorem rnT_F2 (n : Nat) (s : List (Nat × Nat)) : ∀ k, F2 (fun (p q : Nat × Value) => p.1 = q.1 ∧ RV (sg n s) p.2 q.2) k (rnT n s k)
  | [] => .nil
  | (t, v) :: k => .cons ⟨rfl, rnm_RV n s v⟩ (rnT_F2 n s k)

section
variable {P : Program} (hm : P.follows .mixedOrders = true) {call : CallF} (hO : ∀ f args H v h, call f args H = some (v, h) → Does P f args H v (h.getD H)) {OO : OpO} (hOO : SoundO P OO)
include hm hO hOO

theorem pre_sound {n : Nat} {Q : APost} : ∀ (k m : Nat) (c : Code) (s : St3) (r : Ex × St3), seqs k c = true → ex3 P call OO m (pre k c) s = some r → r.2.L → r.1.tag = 0 →
    s.L ∧ (Awn P n (rst k c) Q r.2.T r.2.H r.2.D → Awn P n c Q s.T s.H s.D)
  | 0, m, .seq x y, s, r, hk, h, hL, ht => by
    obtain ⟨h1, h2⟩ := ex3_sound hm hO hOO m x s r h hL
    refine ⟨h1, fun hr => awn_seq (awn_of (awp_mono h2 ?_))⟩
    rintro e T H D ⟨rfl, rfl, rfl, rfl⟩
    obtain ⟨e, r⟩ := r
    cases tag0 ht
    exact hr
  | k + 1, m, .seq x y, s, r, hk, h, hL, ht => by
    cases m with
    | zero => cases h
    | succ m =>
      rw [ex3_succ] at h
      simp only [pre, exF3] at h
      split at h
      · rename_i s' hx
        obtain ⟨h1, h2⟩ := pre_sound k m y s' r hk h hL ht
        obtain ⟨h3, h4⟩ := ex3_sound hm hO hOO m x s _ hx h1
        refine ⟨h3, fun hr => awn_seq (awn_of (awp_mono h4 ?_))⟩
        rintro e T H D ⟨rfl, rfl, rfl, rfl⟩
        exact h2 hr
      · rename_i q hq
        obtain ⟨e, r⟩ := r
        cases tag0 ht
        exact absurd h (hq _)
  | 0, _, .skip, _, _, hk, _, _, _ | 0, _, .ret, _, _, hk, _, _, _ => by cases hk
  | k + 1, _, .skip, _, _, hk, _, _, _ | k + 1, _, .ret, _, _, hk, _, _, _ => by cases hk
  | 0, _, .region .., _, _, hk, _, _, _ | 0, _, .cond .., _, _, hk, _, _, _ | 0, _, .block .., _, _, hk, _, _, _ | 0, _, .loop .., _, _, hk, _, _, _ | 0, _, .exit .., _, _, hk, _, _, _ => by cases hk
  | k + 1, _, .region .., _, _, hk, _, _, _ | k + 1, _, .cond .., _, _, hk, _, _, _ | k + 1, _, .block .., _, _, hk, _, _, _ | k + 1, _, .loop .., _, _, hk, _, _, _ | k + 1, _, .exit .., _, _, hk, _, _, _ => by cases hk
  | 0, _, .scope .., _, _, hk, _, _, _ | 0, _, .label .., _, _, hk, _, _, _ | 0, _, .goto .., _, _, hk, _, _, _ => by cases hk
  | k + 1, _, .scope .., _, _, hk, _, _, _ | k + 1, _, .label .., _, _, hk, _, _, _ | k + 1, _, .goto .., _, _, hk, _, _, _ => by cases hk

omit hm hO hOO in
theorem piece_obs {m : Nat} {c : Code} {T : List Value} {H : Heap} {D : Defs} {L : Prop} {ts os : List Nat} {ob : Obs} (h : (ex3 P call OO m c ⟨⟨T, H, D⟩, True⟩).map (obs3 ts os) = some (ob, L)) (hL : L) :
    ∃ r, ex3 P call OO m c ⟨⟨T, H, D⟩, True⟩ = some r ∧ r.2.L ∧ r.1.tag = ob.tag ∧ r.2.T = mkT ob.n (ts.zip ob.vals) (r.2.T.getD · undef) ∧ r.2.H.next = ob.next ∧ (∀ p ∈ os.zip ob.objs, r.2.H.get p.1 = p.2) ∧ r.2.D = ob.defs := by
  cases hr : ex3 P call OO m c ⟨⟨T, H, D⟩, True⟩ with
  | none => rw [hr] at h; cases h
  | some r =>
    rw [hr] at h
    simp only [Option.map_some, Option.some.injEq, obs3, Prod.mk.injEq] at h
    obtain ⟨h1, h2⟩ := h
    subst h1 h2
    exact ⟨r, rfl, hL, rfl, mkT_of (mem_zip_map _ ts), rfl, mem_zip_map _ os, rfl⟩

/-- The first pieces, and the state behind them under other names. -/
theorem pieceS {n m : Nat} {c : Code} {T : List Value} {H : Heap} {D : Defs} {Q : APost} {L : Prop} {ts os : List Nat} {ob : Obs} (k : Nat) (h : (ex3 P call OO m (pre k c) ⟨⟨T, H, D⟩, True⟩).map (obs3 ts os) = some (ob, L)) (hk : seqs k c = true) (hL : L) (ht : ob.tag = 0)
    (n2 : Nat) (s : List (Nat × Nat)) {os2 : List (Nat × AObj)} {D2 : Defs} (hs : sgOK n n2 s = true) (hOb : F2 (fun (p q : Nat × AObj) => sg n s q.1 = some p.1 ∧ RO (sg n s) p.2 q.2) (os.zip ob.objs) os2)
    (hD : F2 (fun (d d2 : FuncId × List Value) => d.1 = d2.1 ∧ F2 (RV (sg n s)) d.2 d2.2) ob.defs D2)
    (hQ : Awn P n (rst k c) Q (mkT ob.n (rnT n s (ts.zip ob.vals)) (fun _ => jk)) (mkH n2 os2 []) D2) : Awn P n c Q T H D := by
  obtain ⟨r, hr, h1, h2, h3, h4, h5, h6⟩ := piece_obs h hL
  refine (pre_sound hm hO hOO k m c _ r hk hr h1 (h2.trans ht)).2 ?_
  rw [h3, h6]
  exact awn_nrm (Nrm.mk h5 n2 s hs (rnT_F2 n s _) hOb hD) hQ

/-- The end of a round. -/
theorem pieceE {n m : Nat} {c : Code} {T : List Value} {H : Heap} {D : Defs} {Q : APost} {L : Prop} {ts os : List Nat} {ob : Obs} (h : (ex3 P call OO m c ⟨⟨T, H, D⟩, True⟩).map (obs3 ts os) = some (ob, L)) (hL : L) (ht : ob.tag = 0)
    (n2 : Nat) (s : List (Nat × Nat)) {os2 : List (Nat × AObj)} {D2 : Defs} (hs : sgOK n n2 s = true) (hOb : F2 (fun (p q : Nat × AObj) => sg n s q.1 = some p.1 ∧ RO (sg n s) p.2 q.2) (os.zip ob.objs) os2)
    (hD : F2 (fun (d d2 : FuncId × List Value) => d.1 = d2.1 ∧ F2 (RV (sg n s)) d.2 d2.2) ob.defs D2)
    (hQ : ∀ T H D, Nrm P n T H D (mkT ob.n (rnT n s (ts.zip ob.vals)) (fun _ => jk)) (mkH n2 os2 []) D2 → Q .normal T H D) : Awn P n c Q T H D := by
  obtain ⟨r, hr, h1, h2, h3, h4, h5, h6⟩ := piece_obs h hL
  refine awn_of (awp_mono (ex3_sound hm hO hOO m c _ r hr h1).2 ?_)
  rintro e T H D ⟨rfl, rfl, rfl, rfl⟩
  have ht2 := h2.trans ht
  show Q r.1.to r.2.T r.2.H r.2.D
  rw [show r.1.to = .normal by rw [tag0 ht2]; rfl]
  refine hQ _ _ _ ?_
  rw [h3, h6]
  exact Nrm.mk h5 n2 s hs (rnT_F2 n s _) hOb hD

omit hm hO hOO in
theorem nrm_T {n m : Nat} {k : List (Nat × Value)} {X : Nat → Value} {H : Heap} {D : Defs} : Nrm P n (mkT m k X) H D (mkT m k (fun _ => jk)) H D := by
  intro B E a w hS
  refine ⟨E, .refl n E, hS.heap, ⟨by have := hS.tmps.size; simpa [mkT] using this, fun t => ?_⟩, hS.defs⟩
  have h1 := hS.tmps.at_ t
  by_cases ht : t < m
  · rw [mkT_get ht] at h1 ⊢
    clear hS
    induction k with
    | nil => exact .junk _
    | cons p k ih =>
      obtain ⟨j, v⟩ := p
      simp only [pickT] at h1 ⊢
      cases hb : Nat.beq j t with
      | true => rw [hb] at h1; exact h1
      | false => rw [hb] at h1; exact ih h1
  · have e1 : (mkT m k (fun _ => jk)).getD t undef = undef := by simp [mkT, List.getD_eq_getElem?_getD, ht]
    have e2 : a.tmps.getD t undef = undef := by
      have := hS.tmps.size
      simp [mkT] at this
      simp [Array.getD, show ¬ t < a.tmps.size by omega]
    rw [e1, e2]; exact .undef _

omit hm hO hOO in
/-- The later entries are forgotten. -/
theorem nrm_drop {n m : Nat} {k : List (Nat × Value)} {X : Nat → Value} {H : Heap} {D : Defs} (q : Nat) : Nrm P n (mkT m k X) H D (mkT m (k.take q) (fun _ => jk)) H D := by
  have h : mkT m k X = mkT m (k.take q) (pickT (k.drop q) X) := by rw [← mkT_app, List.take_append_drop]
  rw [h]
  exact nrm_T

/-- The first pieces, which leave the heap alone. -/
theorem pieceT {n m : Nat} {c : Code} {T : List Value} {H : Heap} {D : Defs} {Q : APost} {L : Prop} {ts : List Nat} {ob : ObsQ} (k : Nat) (h : (ex3 P call OO m (pre k c) ⟨⟨T, H, D⟩, True⟩).map (obsQ ts) = some (ob, L)) (hk : seqs k c = true) (hL : L) (ht : ob.tag = 0)
    (hQ : Awn P n (rst k c) Q (mkT ob.n (ts.zip ob.vals) (fun _ => jk)) ob.heap ob.defs) : Awn P n c Q T H D := by
  cases hr : ex3 P call OO m (pre k c) ⟨⟨T, H, D⟩, True⟩ with
  | none => rw [hr] at h; cases h
  | some r =>
    rw [hr] at h
    simp only [Option.map_some, Option.some.injEq, obsQ, Prod.mk.injEq] at h
    obtain ⟨h1, h2⟩ := h
    subst h1 h2
    refine (pre_sound hm hO hOO k m c _ r hk hr hL ht).2 ?_
    have h2 : r.2.T = mkT r.2.T.length (ts.zip (ts.map (r.2.T.getD · undef))) (r.2.T.getD · undef) := mkT_of (mem_zip_map _ ts)
    rw [h2]
    exact awn_nrm nrm_T (by simpa using hQ)
end
end Go.Abs

namespace Go.Abs
open Go.RowKit (Below)

/-- Functions that are run in place, with conditions. -/
def inC (P : Program) (call : CallF) (OO : OpO) (m : Nat) (fs : List Nat) : CallC := fun f args H =>
  bif fs.any (Nat.beq f) then (match P.funcs[f]? with
    | some fn => match fn.body with
      | some c => match ex3 P call OO m c ⟨⟨args ++ List.replicate (fn.ntmps - args.length) undef, H, []⟩, True⟩ with
        | some (.exit _, _) => none
        | some (_, s) => bif s.D.all (fun d => quietDefer P d.1 && callable P d.1) then (match resA P fn s.T s.H with
          | some v => some (.eff v s.H s.L)
          | none => none) else none
        | none => none
      | none => none
    | none => none) else none

theorem inC_sound {P : Program} (hm : P.follows .mixedOrders = true) {call : CallF} (hO : ∀ f args H v h, call f args H = some (v, h) → Does P f args H v (h.getD H)) {OO : OpO} (hOO : SoundO P OO) {m : Nat} {fs : List Nat} : SoundC P (inC P call OO m fs) := by
  have key : ∀ f args H r, inC P call OO m fs f args H = some r → ∃ v H' c, r = .eff v H' c ∧ (c → Does P f args H v H') := by
    intro f args H r h
    unfold inC at h
    obtain ⟨_, h⟩ := cond_opt h
    split at h
    case h_2 => cases h
    rename_i fn hf
    split at h
    case h_2 => cases h
    rename_i c hb
    split at h
    · cases h
    · rename_i e s hne hr
      obtain ⟨hD, h⟩ := cond_opt h
      split at h
      case h_2 => cases h
      rename_i v' hv
      cases h
      refine ⟨_, _, _, rfl, fun hL => ?_⟩
      refine does_of_awp hf hb (awp_mono (ex3_sound hm hO hOO m c _ _ hr hL).2 ?_)
      rintro e' T' H2 D' ⟨rfl, rfl, rfl, rfl⟩
      refine ⟨?_, hD, hv, rfl⟩
      cases e with
      | normal => exact .inl rfl
      | ret => exact .inr rfl
      | exit id => exact (hne id rfl).elim
    · cases h
  refine ⟨fun f args H v c h hc => ?_, fun f args H v H' c h hc => ?_⟩
  · obtain ⟨_, _, _, h, k⟩ := key _ _ _ _ h; cases h
  · obtain ⟨_, _, _, h, k⟩ := key _ _ _ _ h; cases h; exact k hc

/-- One function's contract. -/
def CallR.ok (P : Program) (f : FuncId) (args : List Value) (H : Heap) : CallR → Prop
  | .same v c => c → Does P f args H v H
  | .eff v H' c => c → Does P f args H v H'
def oneC (f : FuncId) (g : List Value → Heap → Option CallR) : CallC := fun f' args H => bif Nat.beq f' f then g args H else none
theorem oneC_sound {P : Program} {f : FuncId} {g : List Value → Heap → Option CallR} (h : ∀ args H r, g args H = some r → r.ok P f args H) : SoundC P (oneC f g) := by
  have key : ∀ f' args H r, oneC f g f' args H = some r → f' = f ∧ g args H = some r := by
    intro f' args H r hr
    unfold oneC at hr
    obtain ⟨h1, h2⟩ := cond_opt hr
    exact ⟨beqN h1, h2⟩
  refine ⟨fun f' args H v c hr hc => ?_, fun f' args H v H' c hr hc => ?_⟩
  · obtain ⟨rfl, h2⟩ := key _ _ _ _ hr; exact h _ _ _ h2 hc
  · obtain ⟨rfl, h2⟩ := key _ _ _ _ hr; exact h _ _ _ h2 hc

theorem imp_closed {P : Program} {args : List Value} (H : Heap) (h : args.all c2 = true) : Imp P args H args ⟨0, []⟩ :=
  imp_gen (fun _ => none) (fun _ _ h => nomatch h) (RI.all (List.all_eq_true.1 h)) (fun p hp => by cases hp)

end Go.Abs

namespace Go.Abs
open Go.RowKit (Below)

/-- An operation that makes a row, reckoned in a heap of its own. -/
theorem fresh_of_ev {P : Program} {o : Oper} {ρ ρ0 : Operand → Value} {H H0 H' : Heap} {n c N : Nat} {cs : List Value} {e : TypeId} {ob : AObj} (h : evW P ρ0 H0 o = some (.slice (some ⟨N, 0, none⟩) n c, H')) (hg : H'.get N = ob) (hob : ob = .grow cs e ∨ ob = .cells cs e) (hc : ∀ v ∈ cs, c2 v = true)
    (hv : ∀ H2, H.sub H2 → ∀ B E a w, HRel P B E H2 w → Rels E ρ a o → ∃ E0, HRel P w.heap.size E0 H0 w ∧ Rels E0 ρ0 a o) (id : Nat) : SFresh P o ρ H id (.slice (some ⟨id, 0, none⟩) n c) ob := by
  intro H2 hsub B E a w hH hr hid
  obtain ⟨E0, hH0, hr0⟩ := hv H2 hsub B E a w hH hr
  obtain ⟨E', nx, w', h1, h2, h3, h4, h5⟩ := evW_sound h hH0 hr0
  rcases h2 with ⟨v', rfl, hvv⟩ | ⟨_, hu⟩
  case inr => cases hu
  have hcl : ∀ i (v' : Value), i < cs.length → VRel E' (cs.getD i undef) v' → ∀ E2, VRel E2 (cs.getD i undef) v' := by
    intro i v' hi hv E2
    have hm : cs.getD i undef ∈ cs := by rw [List.getD_eq_getElem?_getD, List.getElem?_eq_getElem hi]; exact List.getElem_mem hi
    rw [eq_of_c2 hv (hc _ hm)]
    exact .of_c2 (hc _ hm)
  have ho := h4.obj N
  rw [hg] at ho
  cases hvv with
  | slice _ _ _ _ l hl hn =>
    rcases hob with rfl | rfl
    · obtain ⟨l', cs', k1, k2, k3, k4, k5, k6, k7, k8⟩ := ho
      rw [hl] at k1; cases k1
      refine ⟨_, w', l, h1, k3, h5, .slice id 0 n c l (by simp [Env.add]) hn, ?_⟩
      exact ⟨l, cs', by simp [Env.add], k2, Nat.le_trans hH.base k3, k4, k5, k6, k7, fun i hi => hcl i _ hi (k8 i hi) _⟩
    · obtain ⟨l', cs', k1, k2, k3, k4, k5⟩ := ho
      rw [hl] at k1; cases k1
      refine ⟨_, w', l, h1, k3, h5, .slice id 0 n c l (by simp [Env.add]) hn, ?_⟩
      refine ⟨l, cs', by simp [Env.add], k2, Nat.le_trans hH.base k3, k4, .of_lt k5.size fun i hi => ?_⟩
      have := hcl i (cs'.getD i undef) (by simpa using hi) (by have := k5.at_ i; simpa [Array.getD_eq_getD_getElem?, List.getD_eq_getElem?_getD] using this) (E.add id l)
      simpa [Array.getD_eq_getD_getElem?, List.getD_eq_getElem?_getD] using this

/-- A slice of closed values is built. -/
def bldF (P : Program) (d : Nat) : OpO := fun o ρ H => match o.dst with
  | some d' => bif Nat.beq d' d && o.op.operands.all (fun x => c2 (ρ x)) then (match evW P ρ ⟨0, []⟩ o with
    | some (.slice (some ⟨0, 0, none⟩) n c, H') => match H'.get 0 with
      | .cells cs e => bif cs.all c2 then some (.fr (.slice (some ⟨H.next, 0, none⟩) n c) (.cells cs e) True) else none
      | _ => none
    | _ => none) else none
  | none => none

theorem bldF_sound {P : Program} {d : Nat} : SoundO P (bldF P d) := by
  have key : ∀ o ρ H r, bldF P d o ρ H = some r → ∃ v ob c, r = .fr v ob c ∧ (c → SFresh P o ρ H H.next v ob) := by
    intro o ρ H r h
    unfold bldF at h
    split at h
    case h_2 => cases h
    obtain ⟨hb, h⟩ := cond_opt h
    simp only [Bool.and_eq_true] at hb
    split at h
    case h_2 => cases h
    rename_i n c H' hev
    split at h
    case h_2 => cases h
    rename_i cs e hg
    obtain ⟨hc, h⟩ := cond_opt h
    cases h
    refine ⟨_, _, _, rfl, fun _ => fresh_of_ev hev hg (.inr rfl) (List.all_eq_true.1 hc) (fun H2 _ B E a w hH hr => ?_) _⟩
    refine ⟨fun _ => none, ⟨Nat.le_refl _, (fun _ _ h => nomatch h), fun _ => trivial, (fun _ _ _ _ h => nomatch h)⟩, fun x hx => ?_⟩
    have hcx : c2 (ρ x) = true := by
      obtain ⟨i, hi, hxi⟩ := Array.mem_iff_getElem.1 hx
      have := Array.all_eq_true.1 hb.2 i hi
      rwa [hxi] at this
    rw [eq_of_c2 (hr x hx) hcx]
    exact .of_c2 hcx
  refine ⟨fun o ρ H v ob c h => ?_, fun o ρ H v c h => ?_, fun o ρ H v c h => ?_, fun o ρ H v c h => ?_, fun o ρ H v H' c h => ?_⟩
  · obtain ⟨_, _, _, h, k⟩ := key _ _ _ _ h; cases h; exact k
  · obtain ⟨_, _, _, h, k⟩ := key _ _ _ _ h; cases h
  · obtain ⟨_, _, _, h, k⟩ := key _ _ _ _ h; cases h
  · obtain ⟨_, _, _, h, k⟩ := key _ _ _ _ h; cases h
  · obtain ⟨_, _, _, h, k⟩ := key _ _ _ _ h; cases h

/-- The names of an append's own heap. -/
def ap0 (ρ : Operand → Value) (y : Operand) : Value := match ρ y with
  | .slice (some _) 0 _ => .slice (some ⟨1, 0, none⟩) 0 0
  | .slice (some _) (n + 1) _ => .slice (some ⟨0, 0, none⟩) (n + 1) capG
  | v => v

/-- append of closed elements to a slice that has no room. -/
def appF (P : Program) (d : Nat) : OpO := fun o ρ H => match o.dst with
  | some d' => bif Nat.beq d' d then (match o.op with
    | .call c => match c.callee with
      | .builtin .append => match c.argTypes.toList, c.args.toList with
        | [sT, xT], [s, x] => match P.underlying sT, P.underlying xT, ρ s, ρ x with
          | some (.slice e), some (.slice _), .slice (some ⟨_, _, none⟩) 0 0, .slice (some ⟨id2, off2, none⟩) m _ => match sizeT P e, bytesT P e, zeroT P e, H.row id2 with
            | some (k + 1), some by_, some z, some ws =>
              some (.fr (.slice (some ⟨H.next, 0, none⟩) m capG) (.grow ((ws.drop off2).take (m * (k + 1))) e)
                (AppN z.cells.size k by_ m off2 ws ∧ ∀ v ∈ (ws.drop off2).take (m * (k + 1)), c2 v = true))
            | _, _, _, _ => none
          | _, _, _, _ => none
        | _, _ => none
      | _ => none
    | _ => none) else none
  | none => none

theorem appF_sound {P : Program} {d : Nat} : SoundO P (appF P d) := by
  have key : ∀ o ρ H r, appF P d o ρ H = some r → ∃ v ob c, r = .fr v ob c ∧ (c → SFresh P o ρ H H.next v ob) := by
    intro o ρ H r h
    unfold appF at h
    split at h
    case h_2 => cases h
    obtain ⟨_, h⟩ := cond_opt h
    split at h
    case h_2 => cases h
    rename_i c ho
    split at h
    case h_2 => cases h
    rename_i hcal
    split at h
    case h_2 => cases h
    rename_i sT xT s x hat hargs
    split at h
    case h_2 => cases h
    rename_i e _ id1 off1 id2 off2 m cx hu hux hs hx
    split at h
    case h_2 => cases h
    rename_i k by_ z ws hsz hby hz hrow
    cases h
    refine ⟨_, _, _, rfl, fun ⟨⟨c1, c2', c3, c4, c9⟩, hcl⟩ => ?_⟩
    obtain ⟨m, rfl⟩ : ∃ q, m = q + 1 := ⟨m - 1, by omega⟩
    generalize hws : (ws.drop off2).take ((m + 1) * (k + 1)) = ws' at hcl
    have hwl : ws'.length = (m + 1) * (k + 1) := by rw [← hws]; simp; omega
    have h0s : ap0 ρ s = .slice (some ⟨1, 0, none⟩) 0 0 := by simp [ap0, hs]
    have h0x : ap0 ρ x = .slice (some ⟨0, 0, none⟩) (m + 1) capG := by simp [ap0, hx]
    have hsrc : srcA ⟨2, [(0, .ro ws')]⟩ (k + 1) (.slice (some ⟨0, 0, none⟩) (m + 1) capG) = some (m + 1, ws') := by
      have hb : Nat.ble (0 + (m + 1) * (k + 1)) ws'.length = true := by rw [Nat.ble_eq]; omega
      have hr0 : (⟨2, [(0, .ro ws')]⟩ : Heap).row 0 = some ws' := rfl
      simp only [srcA, hr0, hb, cond_true, List.drop_zero]
      rw [List.take_of_length_le (by omega)]
    have b0 : Nat.beq z.cells.size (k + 1) = true := by rw [c1]; exact Nat.beq_refl _
    have b1 : fits (m + 1) by_ = true := by simp only [fits, Bool.and_eq_true, Nat.ble_eq]; exact ⟨c3, c4⟩
    have happ : appB ⟨2, [(0, .ro ws')]⟩ e k by_ (m + 1) ws' (.slice (some ⟨1, 0, none⟩) 0 0) = some (.slice (some ⟨2, 0, none⟩) (m + 1) capG, (⟨2, [(0, .ro ws')]⟩ : Heap).push (.grow ws' e)) := by
      have b2 : Nat.blt 0 capG = true := by unfold capG; rfl
      have b3 : Nat.beq (m + 1) 0 = false := rfl
      have b4 : Nat.ble (m + 1) 0 = false := rfl
      simp only [appB, b3, Nat.zero_add, b1, b2, b4, srcA, cond_true, cond_false, List.nil_append]
    have hev : evW P (ap0 ρ) ⟨2, [(0, .ro ws')]⟩ o = some (.slice (some ⟨2, 0, none⟩) (m + 1) capG, (⟨2, [(0, .ro ws')]⟩ : Heap).push (.grow ws' e)) := by
      obtain ⟨dst', op, type, pos, after, guard⟩ := o
      obtain ⟨callee, args, argTypes⟩ := c
      simp only at ho hcal hat hargs
      subst ho hcal
      have ha : args = #[s, x] := by rw [← Array.toArray_toList (xs := args), hargs]
      have hb : argTypes = #[sT, xT] := by rw [← Array.toArray_toList (xs := argTypes), hat]
      subst ha hb
      simp only [evW, evE, appA, hu, hux, hsz, hby, hz, h0s, h0x, hsrc, b0, strOk, Bool.and_self, cond_true, happ]
    refine fresh_of_ev hev rfl (.inl rfl) hcl (fun H2 hsub B E a w hH hr => ?_) _
    have hrs := hr s (by
      have ha : c.args = #[s, x] := by rw [← Array.toArray_toList (xs := c.args), hargs]
      simp [ho, Op.operands, Call.operands, ha])
    have hrx := hr x (by
      have ha : c.args = #[s, x] := by rw [← Array.toArray_toList (xs := c.args), hargs]
      simp [ho, Op.operands, Call.operands, ha])
    rw [hs] at hrs
    rw [hx] at hrx
    generalize hus : a.eval s = us at hrs
    generalize hux' : a.eval x = ux at hrx
    cases hrs with
    | slice _ _ _ _ ls hls hns =>
    cases hrx with
    | slice _ _ _ _ lx hlx hnx =>
    have hrow2 := row_mono hsub hrow
    have hblk := row_lt hH hrow2 hlx
    have hz0 : relC ls 0 = 0 := relC_lt (by unfold capG; omega)
    refine ⟨fun j => if j = 0 then some ⟨lx.blk, lx.off + off2, relC lx cx⟩ else if j = 1 then some ⟨ls.blk, ls.off + off1, 0⟩ else none, ⟨Nat.le_refl _, fun j l hj => ?_, fun j => ?_, fun i j li lj hi hj mi => ?_⟩, fun y hy => ?_⟩
    · show j < 2
      by_cases e0 : j = 0
      · omega
      · by_cases e1 : j = 1
        · omega
        · simp [e0, e1] at hj
    · by_cases e0 : j = 0
      · subst e0
        refine ⟨⟨lx.blk, lx.off + off2, relC lx cx⟩, by simp, hblk, fun i hi => ?_⟩
        have hi1 : i < (m + 1) * (k + 1) := by rw [← hwl]; exact hi
        have hvi : ws[off2 + i]? = some (ws'.getD i undef) := by
          rw [← hws, List.getD_eq_getElem?_getD, List.getElem?_take, if_pos hi1, List.getElem?_drop, List.getElem?_eq_getElem (by omega)]
          rfl
        obtain ⟨v', g1, g2⟩ := hH.cell hrow2 hlx hvi
        refine ⟨v', by rw [← g1]; simp [Nat.add_assoc], ?_⟩
        have hm2 : ws'.getD i undef ∈ ws' := by rw [List.getD_eq_getElem?_getD, List.getElem?_eq_getElem hi]; exact List.getElem_mem hi
        rw [eq_of_c2 g2 (hcl _ hm2)]
        exact .of_c2 (hcl _ hm2)
      · have : (⟨2, [(0, .ro ws')]⟩ : Heap).get j = .dead := by
          show look [(0, AObj.ro ws')] j = .dead
          rw [look_cons, if_neg (fun h => e0 h.symm)]; rfl
        rw [this]; trivial
    · have : ∀ j, ((⟨2, [(0, .ro ws')]⟩ : Heap).get j).mut = false := fun j => by
        show (look [(0, AObj.ro ws')] j).mut = false
        rw [look_cons]
        split <;> rfl
      rw [this] at mi; cases mi
    · have hy2 : y = s ∨ y = x := by
        have ha : c.args = #[s, x] := by rw [← Array.toArray_toList (xs := c.args), hargs]
        simpa [ho, Op.operands, Call.operands, hcal, ha] using hy
      rcases hy2 with rfl | rfl
      · rw [h0s, hus]
        have := VRel.slice (E := fun j => if j = 0 then some ⟨lx.blk, lx.off + off2, relC lx cx⟩ else if j = 1 then some ⟨ls.blk, ls.off + off1, 0⟩ else none) 1 0 0 0 ⟨ls.blk, ls.off + off1, 0⟩ (by simp) (Nat.zero_le _)
        have hz1 : relC (⟨ls.blk, ls.off + off1, 0⟩ : Loc) 0 = 0 := relC_lt (by unfold capG; omega)
        rw [hz1] at this
        rw [hz0]
        simpa using this
      · rw [h0x, hux']
        have := VRel.slice (E := fun j => if j = 0 then some ⟨lx.blk, lx.off + off2, relC lx cx⟩ else if j = 1 then some ⟨ls.blk, ls.off + off1, 0⟩ else none) 0 0 (m + 1) capG ⟨lx.blk, lx.off + off2, relC lx cx⟩ (by simp) (by rw [relC_capG]; exact hnx)
        rw [relC_capG] at this
        simpa using this
  refine ⟨fun o ρ H v ob c h => ?_, fun o ρ H v c h => ?_, fun o ρ H v c h => ?_, fun o ρ H v c h => ?_, fun o ρ H v H' c h => ?_⟩
  · obtain ⟨_, _, _, h, k⟩ := key _ _ _ _ h; cases h; exact k
  · obtain ⟨_, _, _, h, k⟩ := key _ _ _ _ h; cases h
  · obtain ⟨_, _, _, h, k⟩ := key _ _ _ _ h; cases h
  · obtain ⟨_, _, _, h, k⟩ := key _ _ _ _ h; cases h
  · obtain ⟨_, _, _, h, k⟩ := key _ _ _ _ h; cases h

end Go.Abs

