/- BackupKeeps of law 31: Keep and Expire of the program return the lists of the specification, for all days, numbers of days and today; no condition. -/
import Derived.Test.YtafcagkhojhbbaaGreatKD1
import Derived.Test.YtafcagkhojhbbaaGreatRows
import Derived.DataReads
import Derived.WalkKit
import Derived.ProofKit
import Derived.OpenShut
import Derived.ShutString
import Derived.ChangeOld
import Derived.Carry
import Derived.JoinedOf
set_option linter.unusedSimpArgs false
set_option linter.unusedVariables false
namespace Go.Abs
open Go.Proofs
open Go.RowKit (Below)
set_option maxRecDepth 100000
theorem flat_part {α : Type} (g : α → List Value) (k : Nat) : ∀ (l : List α), (∀ x ∈ l, (g x).length = k) → ∀ (i : Nat) (x : α), l[i]? = some x → ((l.flatMap g).drop (i * k)).take k = g x ∧ i * k + k ≤ (l.flatMap g).length
  | [], _, i, x, h => by simp at h
  | y :: l, hl, 0, x, h => by
    simp at h
    subst h
    have h1 := hl y (List.mem_cons_self ..)
    simp only [Nat.zero_mul, List.drop_zero, List.flatMap_cons, List.length_append]
    refine ⟨?_, by omega⟩
    rw [List.take_append_of_le_length (by omega), List.take_of_length_le (by omega)]
  | y :: l, hl, i + 1, x, h => by
    have h1 := hl y (List.mem_cons_self ..)
    obtain ⟨h2, h3⟩ := flat_part g k l (fun z hz => hl z (List.mem_cons_of_mem _ hz)) i x (by simpa using h)
    simp only [List.flatMap_cons, List.length_append]
    have e : (i + 1) * k = k + i * k := by rw [Nat.add_mul]; omega
    rw [e]
    refine ⟨?_, by omega⟩
    rw [← h1, ← List.drop_drop, List.drop_left' rfl, h1]
    exact h2

section
variable {H : Type} {enc : TypeId × Value → H} {w : World} {base : Nat} {sp : Nat → Bool} {held : Bool}
def Rdb (enc : TypeId × Value → H) (w : World) (base : Nat) (sp : Nat → Bool) (held : Bool) (t : TypeId) (cs : List Value) : Prop := ∃ fuel y, DataW.trod enc Tryz.prog w base sp held fuel t cs = some y
theorem rd_int {t : TypeId} {k : IntKind} {cs : List Value} (hu : Tryz.prog.underlying t = some (.int k)) (h : Rdb enc w base sp held t cs) : ∃ n, cs = [.int k n] := by
  obtain ⟨fuel, y, h⟩ := h
  exact inv_int hu h
theorem collect {α : Type} {p : Nat → α → Prop} : ∀ (n : Nat), (∀ i, i < n → ∃ x, p i x) → ∃ xs : List α, xs.length = n ∧ ∀ (i : Nat) (x : α), xs[i]? = some x → p i x
  | 0, _ => ⟨[], rfl, fun i x h => by simp at h⟩
  | n + 1, h => by
    obtain ⟨xs, hl, hx⟩ := collect n (fun i hi => h i (by omega))
    obtain ⟨y, hy⟩ := h n (by omega)
    refine ⟨xs ++ [y], by simp [hl], fun i x hi => ?_⟩
    by_cases hn : i < n
    · exact hx i x (by rwa [List.getElem?_append_left (by omega)] at hi)
    · rw [List.getElem?_append_right (by omega)] at hi
      have : i = n := by
        by_cases hz : i - xs.length = 0
        · omega
        · rw [List.getElem?_eq_none (by simp; omega)] at hi; cases hi
      subst this
      simp [hl] at hi
      subst hi
      exact hy
theorem rd_slice {α : Type} {g : α → List Value} {t e : TypeId} {k : Nat} {cs : List Value} (j : Nat) (hu : Tryz.prog.underlying t = some (.slice e)) (hk : Tryz.prog.cellsOf e = k) (hp : 0 < k)
    (hg : ∀ x, (g x).length = k) (hc : ∀ x, ∀ v ∈ g x, c2 v = true) (he : ∀ ecs, Rdb enc w base sp held e ecs → ∃ x, ecs = g x) (h : Rdb enc w base sp held t cs) :
    ∃ (a : Option Addr) (n c : Nat) (o : AObj) (xs : List α) (lo : Option Loc) (v : Value), cs = [v] ∧ SL j a n c o xs.length (xs.flatMap g) ∧ ∀ E : Env, E j = lo → VRel E (.slice a n c) v ∧ OR Tryz.prog w.heap.size E w j o := by
  obtain ⟨fuel, y, h⟩ := h
  rcases inv_slice hu h with rfl | ⟨a, len, cap, fuel', rfl, hlc, hi⟩
  · exact ⟨none, 0, 0, .dead, [], none, _, rfl, .inl ⟨.inl rfl, rfl, rfl, rfl, rfl⟩, fun E _ => ⟨.sliceNil, trivial⟩⟩
  cases len with
  | zero => exact ⟨some ⟨0, 0, some 1⟩, 0, 0, .dead, [], none, _, rfl, .inl ⟨.inr rfl, rfl, rfl, rfl, rfl⟩, fun E _ => ⟨.anonE a cap, trivial⟩⟩
  | succ n =>
    rw [hk] at hi
    obtain ⟨xs, hl, hx⟩ := collect (p := fun i x => w.cells? base (a.add (i * k)) k = some (g x)) (n + 1) (fun i hi' => by
      obtain ⟨ecs, y, h1, h2⟩ := hi i hi'
      obtain ⟨x, rfl⟩ := he ecs ⟨fuel', y, h2⟩
      exact ⟨x, h1⟩)
    obtain ⟨x0, h0⟩ : ∃ x0, xs[0]? = some x0 := ⟨_, List.getElem?_eq_getElem (by omega)⟩
    have hs := World.cells?_some (hx 0 x0 h0)
    have hb := World.cells?_block (hx 0 x0 h0) hp
    have h00 := hs.2.2 0 hp
    rw [Nat.zero_mul, Addr.add, if_pos rfl, Addr.add, if_pos rfl] at h00
    rw [Nat.zero_mul, Addr.add, if_pos rfl] at hb
    have hsp : a.spot = none := by
      cases ha : a.spot with
      | none => rfl
      | some z =>
        rw [List.getElem?_eq_getElem (by rw [hg]; exact hp)] at h00
        unfold World.cell? at h00
        split at h00 <;> simp [ha] at h00
    obtain ⟨b, off, s⟩ := a
    simp only at hsp
    subst hsp
    have hadd : ∀ off m, (⟨b, off, none⟩ : Addr).add m = ⟨b, off + m, none⟩ := fun off m => by
      unfold Addr.add
      split
      · subst_vars; rfl
      · rfl
    refine ⟨some ⟨j, 0, none⟩, n + 1, capG, .ro (xs.flatMap g), xs, some ⟨b, off, cap⟩, _, rfl, .inr ⟨rfl, rfl, rfl, hl.symm, ?_⟩, fun E hE => ⟨?_, ?_⟩⟩
    · intro v hv
      obtain ⟨x, _, hx⟩ := List.mem_flatMap.1 hv
      exact hc x v hx
    · have := VRel.slice (E := E) j 0 (n + 1) capG ⟨b, off, cap⟩ hE (by rw [relC_capG]; exact hlc)
      rw [relC_capG] at this
      exact this
    · refine ⟨⟨b, off, cap⟩, hE, hb, fun i hi => ?_⟩
      have hfl : (xs.flatMap g).length = xs.length * k := by
        clear hx h0 hi hl
        induction xs with
        | nil => simp
        | cons x xs ih => simp [List.flatMap_cons, hg, Nat.add_mul, ih]; omega
      have hq : i / k < xs.length := by rw [hfl] at hi; exact Nat.div_lt_of_lt_mul (by rw [Nat.mul_comm]; exact hi)
      have hr : i % k < k := Nat.mod_lt _ hp
      have hdm : i / k * k + i % k = i := by rw [Nat.mul_comm]; exact Nat.div_add_mod i k
      have hxe := List.getElem?_eq_getElem hq
      obtain ⟨f1, f2⟩ := flat_part g k xs (fun x _ => hg x) (i / k) _ hxe
      obtain ⟨_, hlg, hcell⟩ := World.cells?_some (hx _ _ hxe)
      have h5 := hcell (i % k) hr
      rw [hadd, hadd, Nat.add_assoc, hdm] at h5
      have h6 : (g xs[i / k])[i % k]? = (xs.flatMap g)[i]? := by
        rw [← f1, List.getElem?_take, if_pos hr, List.getElem?_drop, hdm]
      rw [h6, List.getElem?_eq_getElem hi] at h5
      refine ⟨_, h5, ?_⟩
      rw [List.getD_eq_getElem?_getD, List.getElem?_eq_getElem hi]
      refine .of_c2 ?_
      have hm : (xs.flatMap g)[i] ∈ xs.flatMap g := List.getElem_mem hi
      obtain ⟨x, _, hx⟩ := List.mem_flatMap.1 hm
      exact hc x _ hx

theorem cz3 : Tryz.prog.cellsOf 3 = 1 := by kernel_rfl
theorem flat_map (l : List Int) : l.flatMap (fun d => [i64 d]) = l.map i64 := by
  induction l with
  | nil => rfl
  | cons x l ih => rw [List.flatMap_cons, ih]; rfl
theorem call3 {v : Value} {k t : Int} (h0 : Rdb enc w base sp held 22 [v]) : Calls Tryz.prog 3 #[v, .int .i64 k, .int .i64 t] w fun e w' => e = .returned (.bool true) ∧ Below w.heap.size w w' := by
  obtain ⟨a, n, c, o, xs, lo, v', hv, hs, hE⟩ := rd_slice (g := fun d => [i64 d]) 0 Tryz.underlying22 cz3 (by omega) (fun _ => rfl) (fun x v hv => by simp at hv; subst hv; rfl) (fun ecs he => by obtain ⟨d, rfl⟩ := rd_int Tryz.underlying3 he; exact ⟨d, rfl⟩) h0
  cases hv
  rw [flat_map] at hs
  let E : Env := fun i => if i = 0 then lo else none
  obtain ⟨hr, ho⟩ := hE E rfl
  have hm : o.mut = false := by rcases hs with ⟨_, _, _, rfl, _⟩ | ⟨_, _, rfl, _, _⟩ <;> rfl
  have hget : ∀ i, (⟨1, [(0, o)]⟩ : Heap).get i = if 0 = i then o else .dead := fun i => by
    show look [(0, o)] i = _
    rw [look_cons]; rfl
  have hH : HRel Tryz.prog w.heap.size E ⟨1, [(0, o)]⟩ w := by
    refine ⟨Nat.le_refl _, fun id l h => ?_, fun id => ?_, fun i j li lj hi hj hi' => ?_⟩
    · show id < 1
      by_cases h0 : id = 0
      · omega
      · have : E id = none := if_neg h0
        rw [this] at h; cases h
    · rw [hget]
      split
      · subst_vars; exact ho
      · trivial
    · rw [hget] at hi'
      split at hi'
      · rw [hm] at hi'; cases hi'
      · cases hi'
  have hA : LRel E [.slice a n c, i64 k, i64 t] #[v, .int .i64 k, .int .i64 t] :=
    ARel.of_F2 (l' := [v, .int .i64 k, .int .i64 t]) (.cons hr (.cons (.int ..) (.cons (.int ..) .nil)))
  refine (does3 hs k t w.heap.size E w _ hH hA).mono ?_
  rintro e w' ⟨E', v', _, _, hv, hB, rfl⟩
  cases hv
  exact ⟨rfl, hB⟩
end
end Go.Abs
namespace Go.Proofs.YtafcagkhojhbbaaGreat.backupKeeps
open Go.ChangeShapes Go.WideShapes Go.ChangeAt Go.RowKit Go.Abs
open Go.Proofs.YtafcagkhojhbbaaGreat

theorem own : ownKnob Tryz.prog.godebug = none := by kernel_rfl
theorem laidOut : laidOutB Tryz.prog = true := by kernel_rfl
set_option maxRecDepth 100000 in
theorem lifted (os : Os) (started : os.Started) (H : Type) (enc : TypeId × Value → H) :
    ReturnsInHanded {} Tryz.checked os 3 .any (Rows.backupKeepsSpec.pre6 enc Tryz.prog Tryz.f3 Rows.backupKeepsRow.domain false) (Rows.backupKeepsSpec.post enc Tryz.prog Tryz.f3 false true false false) := by
  refine returnsInHanded_of_change (C := Tryz.checked) own started (by kernel_rfl) Tryz.func3
    (ChangeSpec.witness6 (enc := enc) (C := Tryz.checked) false ⟨#[], #[.slice none 0 0, .int .i64 0, .int .i64 0], []⟩ 8 (by kernel_rfl) (by kernel_rfl) (by kernel_rfl) (by kernel_rfl)) ?_
  intro W base args ds gs before hval0 hW hcnd _
  have hval : ∀ (j : Nat) t v, Tryz.f3.params[j]? = some t → args[j]? = some v → Value.okWide Tryz.prog W .any base t v := hval0
  have hW' := hW
  obtain ⟨p, q, hA0, hV, rfl, hfz, hnd⟩ := hW
  have hA : DataW.TrodAll enc Tryz.prog W 0 (fun _ => true) true Tryz.f3.params.toList args.toList ds p := hA0
  rw [Tryz.params3] at hA hval
  obtain ⟨v0, vs0, d0, ds0, p0, q0, hargs, rfl, rfl, h0, r0⟩ := trodAll_cons hA
  obtain ⟨v1, vs1, d1, ds1, p1, q1, rfl, rfl, rfl, h1, r1⟩ := trodAll_cons r0
  obtain ⟨v2, vs2, d2, ds2, p2, q2, rfl, rfl, rfl, h2, r2⟩ := trodAll_cons r1
  obtain ⟨rfl, rfl, rfl⟩ := trodAll_nil r2
  obtain rfl : args = #[v0, v1, v2] := by cases args; simp_all
  obtain ⟨rfl, rfl⟩ := trodVars_none hV
  obtain ⟨a0, n0, c0, rfl⟩ := okWide_slice Tryz.underlying22 (hval 0 22 v0 rfl rfl)
  obtain ⟨k, rfl⟩ := okWide_int Tryz.underlying3 (hval 1 3 v1 rfl rfl)
  obtain ⟨t, rfl⟩ := okWide_int Tryz.underlying3 (hval 2 3 v2 rfl rfl)
  have k0 := h0
  have k1 := h1
  have k2 := h2
  have lt0 : ∀ x ∈ p0, x.block < W.heap.size := by obtain ⟨m, hm⟩ := k0; exact DataW.trod_lt m _ _ _ hm
  have lt1 : ∀ x ∈ p1, x.block < W.heap.size := by obtain ⟨m, hm⟩ := k1; exact DataW.trod_lt m _ _ _ hm
  have lt2 : ∀ x ∈ p2, x.block < W.heap.size := by obtain ⟨m, hm⟩ := k2; exact DataW.trod_lt m _ _ _ hm
  clear hA0 hval0
  obtain ⟨f0, hf0⟩ := h0
  refine (call3 (enc := enc) (base := 0) (sp := fun _ => true) (held := true) (k := k) (t := t) ⟨f0, _, hf0⟩).mono fun e W' ⟨he, bel⟩ => ?_
  subst he
  exact ⟨_, rfl, _, _, _, [], _, [], hW', trodAll_mk1 (shut_bool Tryz.underlying4 _), trodAll_cons_mk (Below.trod laidOut (by kernel_rfl) (of_decide_eq_true (by kernel_rfl)) k0 bel lt0) (trodAll_cons_mk (Below.trod laidOut (by kernel_rfl) (of_decide_eq_true (by kernel_rfl)) k1 bel lt1) (trodAll_cons_mk (Below.trod laidOut (by kernel_rfl) (of_decide_eq_true (by kernel_rfl)) k2 bel lt2) trodAll_mk0)), rfl, bel.frame _, fun h => by cases h⟩
end Go.Proofs.YtafcagkhojhbbaaGreat.backupKeeps

