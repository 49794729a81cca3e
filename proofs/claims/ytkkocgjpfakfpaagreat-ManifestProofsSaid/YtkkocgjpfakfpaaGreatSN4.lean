/- A part of the proof that the law ManifestProofs returns true at every input and leaves its arguments as they were; no condition. -/
import Derived.Test.YtkkocgjpfakfpaaGreatSMd
import Derived.Test.YtkkocgjpfakfpaaGreatSL4
set_option linter.unusedSimpArgs false
set_option linter.unusedVariables false
namespace Go.Abs
open Go.Proofs
open Go.RowKit (Below)
set_option maxRecDepth 100000
section
variable {H : Type} {enc : TypeId × Value → H} {w : World} {base : Nat} {sp : Nat → Bool} {held : Bool}

theorem und47 : Tryz.prog.underlying 47 = some (.array 3 3) := by kernel_rfl
theorem cz47 : Tryz.prog.cellsOf 47 = 3 := by kernel_rfl
theorem rd_three {cs : List Value} (h : Rdb enc w base sp held 47 cs) : ∃ a b c : Int, cs = in3 a b c := by
  obtain ⟨fuel, y, h⟩ := h
  obtain ⟨h1, fuel', h2⟩ := inv_array und47 h
  rw [cz47] at h1
  rw [cz3] at h2
  have key : ∀ i, i < 3 → ∃ n, (cs.drop i).take 1 = [.int .i64 n] := fun i hi => by
    obtain ⟨z, hz⟩ := h2 i hi
    obtain ⟨n, hn⟩ := inv_int Tryz.underlying3 hz
    exact ⟨n, by simpa using hn⟩
  obtain ⟨a, ha⟩ := key 0 (by omega)
  obtain ⟨b, hb⟩ := key 1 (by omega)
  obtain ⟨c, hc⟩ := key 2 (by omega)
  refine ⟨a, b, c, ?_⟩
  have f : cs.drop 0 = _ := joi (k := 0) (n := 1) ha (joi (k := 1) (n := 1) hb (joi (k := 2) (n := 1) hc (List.drop_eq_nil_of_le (by omega))))
  exact Eq.trans (show cs = cs.drop 0 from rfl) f
theorem in3_c2 {a b c : Int} : ∀ v ∈ in3 a b c, c2 v = true := by
  intro v hv
  simp only [in3, List.mem_cons, List.not_mem_nil, or_false] at hv
  rcases hv with rfl | rfl | rfl <;> rfl

theorem call5 (h9 : ∀ H, Does Tryz.prog 9 [] H (.bool true) H) {a b c : Array Value} (h0 : Rdb enc w base sp held 33 a.toList) (h1 : Rdb enc w base sp held 37 b.toList) (h2 : Rdb enc w base sp held 47 c.toList) :
    Calls Tryz.prog 5 #[.agg a, .agg b, .agg c] w fun e w' => e = .returned (.bool true) ∧ Below w.heap.size w w' := by
  obtain ⟨m, ls, ss, xs, o0, o1, o2, E, s1, s2, s3, s4, s5, hH, hF⟩ := heap_manifest h0
  obtain ⟨l, hl⟩ := rd_line h1
  obtain ⟨x, y, z, hz⟩ := rd_three h2
  have hd := does5 h9 s1 s2 s3 s4 s5 l x y z
  have hA : LRel E [.agg m.all.toArray, .agg l.cells.toArray, .agg (in3 x y z).toArray] #[.agg a, .agg b, .agg c] :=
    ARel.of_F2 (l' := [.agg a, .agg b, .agg c]) (.cons (.agg' (by simpa using ARel.of_F2 hF)) (.cons (.agg' (by rw [← hl]; simpa using ARel.of_F2 (F2.same (E := E) (l := b.toList) (by rw [hl]; exact l.cc2)))) (.cons (.agg' (by rw [← hz]; simpa using ARel.of_F2 (F2.same (E := E) (l := c.toList) (by rw [hz]; exact in3_c2)))) .nil)))
  refine (hd w.heap.size E w _ hH hA).mono ?_
  rintro e w' ⟨E', v', _, _, hv, hB, rfl⟩
  cases hv
  exact ⟨rfl, hB⟩
theorem okWide_array {P : Program} {w : World} {r : Go.Reach} {base n : Nat} {t e : TypeId} {v : Value} (ht : P.underlying t = some (.array n e)) (h : Value.okWide P w r base t v) : ∃ cs, v = .agg cs := by
  simp only [Value.okWide, ht] at h
  obtain ⟨cs, h1, _, _⟩ := h
  exact ⟨cs, h1⟩
end
end Go.Abs
namespace Go.Proofs.YtkkocgjpfakfpaaGreat.manifestProofs
open Go.ChangeShapes Go.WideShapes Go.ChangeAt Go.RowKit Go.Abs
open Go.Proofs.YtkkocgjpfakfpaaGreat
set_option linter.unusedVariables false

theorem own : ownKnob Tryz.prog.godebug = none := by kernel_rfl
theorem laidOut : laidOutB Tryz.prog = true := by kernel_rfl

noncomputable def z33l : List Value := [.int .i64 0, .int .i64 0, .slice none 0 0, .slice none 0 0, .slice none 0 0] ++ List.replicate 32 (.int .u8 0) ++ [.int .i64 0, .slice none 0 0, .int .i64 0, .int .i64 0, .slice none 0 0]
noncomputable def z33 : Array Value := z33l.toArray
noncomputable def z37l : List Value := List.replicate 6 (.int .i64 0) ++ List.replicate 32 (.int .u8 0)
noncomputable def z37 : Array Value := z37l.toArray
noncomputable def z47 : Array Value := #[.int .i64 0, .int .i64 0, .int .i64 0]

set_option maxRecDepth 100000 in
theorem lifted (h9 : ∀ H, Does Tryz.prog 9 [] H (.bool true) H) (os : Os) (started : os.Started) (H : Type) (enc : TypeId × Value → H) :
    ReturnsInHanded {} Tryz.checked os 5 .any (Rows.manifestProofsSpec.pre6 enc Tryz.prog Tryz.f5 Rows.manifestProofsRow.domain false) (Rows.manifestProofsSpec.post enc Tryz.prog Tryz.f5 false true false false) := by
  refine returnsInHanded_of_change (C := Tryz.checked) own started (by kernel_rfl) Tryz.func5
    (ChangeSpec.witness6 (enc := enc) (C := Tryz.checked) false ⟨#[], #[.agg z33, .agg z37, .agg z47], []⟩ 8 (by kernel_rfl) (by kernel_rfl) (by kernel_rfl) (by kernel_rfl)) ?_
  intro W base args ds gs before hval0 hW hcnd _
  have hval : ∀ (j : Nat) t v, Tryz.f5.params[j]? = some t → args[j]? = some v → Value.okWide Tryz.prog W .any base t v := hval0
  have hW' := hW
  obtain ⟨p, q, hA0, hV, rfl, hfz, hnd⟩ := hW
  have hA : DataW.TrodAll enc Tryz.prog W 0 (fun _ => true) true Tryz.f5.params.toList args.toList ds p := hA0
  rw [Tryz.params5] at hA hval
  obtain ⟨v0, vs0, d0, ds0, p0, q0, hargs, rfl, rfl, h0, r0⟩ := trodAll_cons hA
  obtain ⟨v1, vs1, d1, ds1, p1, q1, rfl, rfl, rfl, h1, r1⟩ := trodAll_cons r0
  obtain ⟨v2, vs2, d2, ds2, p2, q2, rfl, rfl, rfl, h2, r2⟩ := trodAll_cons r1
  obtain ⟨rfl, rfl, rfl⟩ := trodAll_nil r2
  obtain rfl : args = #[v0, v1, v2] := by cases args; simp_all
  obtain ⟨rfl, rfl⟩ := trodVars_none hV
  obtain ⟨c0, rfl, _⟩ := okWide_struct Tryz.underlying33 (hval 0 33 v0 rfl rfl)
  obtain ⟨c1, rfl, _⟩ := okWide_struct Tryz.underlying37 (hval 1 37 v1 rfl rfl)
  obtain ⟨c2, rfl⟩ := okWide_array und47 (hval 2 47 v2 rfl rfl)
  have k0 := h0
  have k1 := h1
  have k2 := h2
  have lt0 : ∀ x ∈ p0, x.block < W.heap.size := by obtain ⟨m, hm⟩ := k0; exact DataW.trod_lt m _ _ _ hm
  have lt1 : ∀ x ∈ p1, x.block < W.heap.size := by obtain ⟨m, hm⟩ := k1; exact DataW.trod_lt m _ _ _ hm
  have lt2 : ∀ x ∈ p2, x.block < W.heap.size := by obtain ⟨m, hm⟩ := k2; exact DataW.trod_lt m _ _ _ hm
  clear hA0 hval0
  obtain ⟨f0, hf0⟩ := h0
  obtain ⟨f1, hf1⟩ := h1
  obtain ⟨f2, hf2⟩ := h2
  refine (call5 (enc := enc) (base := 0) (sp := fun _ => true) (held := true) h9 ⟨f0, _, hf0⟩ ⟨f1, _, hf1⟩ ⟨f2, _, hf2⟩).mono fun e W' ⟨he, bel⟩ => ?_
  subst he
  exact ⟨_, rfl, _, _, _, [], _, [], hW', trodAll_mk1 (shut_bool Tryz.underlying4 _), trodAll_cons_mk (Below.trod laidOut (by kernel_rfl) (of_decide_eq_true (by kernel_rfl)) k0 bel lt0) (trodAll_cons_mk (Below.trod laidOut (by kernel_rfl) (of_decide_eq_true (by kernel_rfl)) k1 bel lt1) (trodAll_cons_mk (Below.trod laidOut (by kernel_rfl) (of_decide_eq_true (by kernel_rfl)) k2 bel lt2) trodAll_mk0)), rfl, bel.frame _, fun h => by cases h⟩
end Go.Proofs.YtkkocgjpfakfpaaGreat.manifestProofs

