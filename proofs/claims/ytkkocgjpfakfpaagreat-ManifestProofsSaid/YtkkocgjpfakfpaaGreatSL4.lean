/- A part of the proof that the law ManifestProofs returns true at every input and leaves its arguments as they were; no condition. -/
import Derived.Test.YtkkocgjpfakfpaaGreatSMb
import Derived.Test.YtkkocgjpfakfpaaGreatSDa
import Derived.JoinedOf
set_option linter.unusedSimpArgs false
set_option linter.unusedVariables false
namespace Go.Abs
open Go.Proofs
open Go.RowKit (Below)
set_option maxRecDepth 100000
section
variable {H : Type} {enc : TypeId × Value → H} {w : World} {base : Nat} {sp : Nat → Bool} {held : Bool}

/-- A manifest that came in, as a heap and its values. -/
theorem heap_manifest {cs : List Value} (h : Rdb enc w base sp held 33 cs) : ∃ (m : Mg) (ls : List Ln) (ss : List Sr) (xs : List Ct) (o0 o1 o2 : AObj) (E : Env),
    SL 0 m.a1 m.n1 m.c1 o0 ls.length (ls.flatMap Ln.cells) ∧ SL 1 m.a2 m.n2 m.c2 o1 ss.length (ss.flatMap Sr.cells) ∧ SL 2 m.a3 m.n3 m.c3 o2 xs.length (xs.flatMap Ct.cells) ∧ SN 3 m.a4 m.n4 m.c4 ∧ SN 4 m.a5 m.n5 m.c5 ∧
    HRel Tryz.prog w.heap.size E ⟨5, [(0, o0), (1, o1), (2, o2)]⟩ w ∧ F2 (VRel E) m.all cs := by
  obtain ⟨m, ls, ss, xs, o0, o1, o2, l0, l1, l2, l3, l4, s1, s2, s3, s4, s5, hE⟩ := rd_manifest h
  let E : Env := fun i => if i = 0 then l0 else if i = 1 then l1 else if i = 2 then l2 else if i = 3 then l3 else if i = 4 then l4 else none
  obtain ⟨hF, r0, r1, r2⟩ := hE E rfl rfl rfl rfl rfl
  have hm : ∀ {j n c k : Nat} {a : Option Addr} {o : AObj} {cs : List Value}, SL j a n c o k cs → o.mut = false := fun h => by
    rcases h with ⟨_, _, _, rfl, _⟩ | ⟨_, _, rfl, _, _⟩ <;> rfl
  refine ⟨m, ls, ss, xs, o0, o1, o2, E, s1, s2, s3, s4, s5, ⟨Nat.le_refl _, fun id lo h => ?_, fun id => ?_, fun i j li lj hi hj hi' => ?_⟩, hF⟩
  · show id < 5
    by_cases h5 : id < 5
    · exact h5
    · have : E id = none := by
        show (if id = 0 then l0 else if id = 1 then l1 else if id = 2 then l2 else if id = 3 then l3 else if id = 4 then l4 else none) = none
        rw [if_neg (by omega), if_neg (by omega), if_neg (by omega), if_neg (by omega), if_neg (by omega)]
      rw [this] at h
      cases h
  · rw [look3]
    split
    · subst_vars; exact r0
    · split
      · subst_vars; exact r1
      · split
        · subst_vars; exact r2
        · trivial
  · rw [look3] at hi'
    split at hi'
    · rw [hm s1] at hi'; cases hi'
    · split at hi'
      · rw [hm s2] at hi'; cases hi'
      · split at hi'
        · rw [hm s3] at hi'; cases hi'
        · cases hi'

theorem call4 (h9 : ∀ H, Does Tryz.prog 9 [] H (.bool true) H) {a : Array Value} (h0 : Rdb enc w base sp held 33 a.toList) :
    Calls Tryz.prog 4 #[.agg a] w fun e w' => e = .returned (.bool true) ∧ Below w.heap.size w w' := by
  obtain ⟨m, ls, ss, xs, o0, o1, o2, E, s1, s2, s3, s4, s5, hH, hF⟩ := heap_manifest h0
  have hd := does4 h9 s1 s2 s3 s4 s5
  have hA : LRel E [.agg m.all.toArray] #[.agg a] :=
    ARel.of_F2 (l' := [.agg a]) (.cons (.agg' (by simpa using ARel.of_F2 hF)) .nil)
  refine (hd w.heap.size E w _ hH hA).mono ?_
  rintro e w' ⟨E', v', _, _, hv, hB, rfl⟩
  cases hv
  exact ⟨rfl, hB⟩
end
end Go.Abs
namespace Go.Proofs.YtkkocgjpfakfpaaGreat.manifestLeaves
open Go.ChangeShapes Go.WideShapes Go.ChangeAt Go.RowKit Go.Abs
open Go.Proofs.YtkkocgjpfakfpaaGreat
set_option linter.unusedVariables false

theorem own : ownKnob Tryz.prog.godebug = none := by kernel_rfl
theorem laidOut : laidOutB Tryz.prog = true := by kernel_rfl

noncomputable def z33l : List Value := [.int .i64 0, .int .i64 0, .slice none 0 0, .slice none 0 0, .slice none 0 0] ++ List.replicate 32 (.int .u8 0) ++ [.int .i64 0, .slice none 0 0, .int .i64 0, .int .i64 0, .slice none 0 0]
noncomputable def z33 : Array Value := z33l.toArray

set_option maxRecDepth 100000 in
theorem lifted (h9 : ∀ H, Does Tryz.prog 9 [] H (.bool true) H) (os : Os) (started : os.Started) (H : Type) (enc : TypeId × Value → H) :
    ReturnsInHanded {} Tryz.checked os 4 .any (Rows.manifestLeavesSpec.pre6 enc Tryz.prog Tryz.f4 Rows.manifestLeavesRow.domain false) (Rows.manifestLeavesSpec.post enc Tryz.prog Tryz.f4 false true false false) := by
  refine returnsInHanded_of_change (C := Tryz.checked) own started (by kernel_rfl) Tryz.func4
    (ChangeSpec.witness6 (enc := enc) (C := Tryz.checked) false ⟨#[], #[.agg z33], []⟩ 8 (by kernel_rfl) (by kernel_rfl) (by kernel_rfl) (by kernel_rfl)) ?_
  intro W base args ds gs before hval0 hW hcnd _
  have hval : ∀ (j : Nat) t v, Tryz.f4.params[j]? = some t → args[j]? = some v → Value.okWide Tryz.prog W .any base t v := hval0
  have hW' := hW
  obtain ⟨p, q, hA0, hV, rfl, hfz, hnd⟩ := hW
  have hA : DataW.TrodAll enc Tryz.prog W 0 (fun _ => true) true Tryz.f4.params.toList args.toList ds p := hA0
  rw [Tryz.params4] at hA hval
  obtain ⟨v0, vs0, d0, ds0, p0, q0, hargs, rfl, rfl, h0, r0⟩ := trodAll_cons hA
  obtain ⟨rfl, rfl, rfl⟩ := trodAll_nil r0
  obtain rfl : args = #[v0] := by cases args; simp_all
  obtain ⟨rfl, rfl⟩ := trodVars_none hV
  obtain ⟨c0, rfl, _⟩ := okWide_struct Tryz.underlying33 (hval 0 33 v0 rfl rfl)
  have k0 := h0
  have lt0 : ∀ x ∈ p0, x.block < W.heap.size := by obtain ⟨m, hm⟩ := k0; exact DataW.trod_lt m _ _ _ hm
  clear hA0 hval0
  obtain ⟨f0, hf0⟩ := h0
  refine (call4 (enc := enc) (base := 0) (sp := fun _ => true) (held := true) h9 ⟨f0, _, hf0⟩).mono fun e W' ⟨he, bel⟩ => ?_
  subst he
  exact ⟨_, rfl, _, _, _, [], _, [], hW', trodAll_mk1 (shut_bool Tryz.underlying4 _), trodAll_cons_mk (Below.trod laidOut (by kernel_rfl) (of_decide_eq_true (by kernel_rfl)) k0 bel lt0) trodAll_mk0, rfl, bel.frame _, fun h => by cases h⟩
end Go.Proofs.YtkkocgjpfakfpaaGreat.manifestLeaves

