/- For every manifest, seed and index the statements ManifestSigns and ManifestAccepts of law 40 hold, with no condition. -/
import Derived.Test.YtkkocgjpfakfpaaGreatWTa
import Derived.Test.YtkkocgjpfakfpaaGreatWDa
import Derived.JoinedOf
set_option linter.unusedSimpArgs false
set_option linter.unusedVariables false
namespace Go.Abs
open Go.Proofs
open Go.RowKit (Below)
set_option maxRecDepth 100000
section
variable {H : Type} {enc : TypeId × Value → H} {w : World} {base : Nat} {sp : Nat → Bool} {held : Bool}

theorem okWide_array {P : Program} {w : World} {r : Go.Reach} {base n : Nat} {t e : TypeId} {v : Value} (ht : P.underlying t = some (.array n e)) (h : Value.okWide P w r base t v) : ∃ cs, v = .agg cs := by
  simp only [Value.okWide, ht] at h
  obtain ⟨cs, h1, _, _⟩ := h
  exact ⟨cs, h1⟩
theorem flatG {j n c : Nat} {a : Option Addr} {o : AObj} {ds : List (Nat → Int)} (h : SL j a n c o ds.length (ds.flatMap fun d => bytes (dgf d))) : SL j a n c o (ds.map dgf).length (flatD (ds.map dgf)) := by
  have e : flatD (ds.map dgf) = ds.flatMap fun d => bytes (dgf d) := by simp [flatD, List.flatMap_map]
  rw [e, List.length_map]
  exact h
theorem map32 (ds : List (Nat → Int)) : ∀ d ∈ ds.map dgf, d.length = 32 := fun d hd => by
  obtain ⟨x, _, rfl⟩ := List.mem_map.1 hd
  exact dgf_len _
theorem rd_manifest2 {cs : List Value} (h : Rdb enc w base sp held 33 cs) : ∃ (m : Mg) (ls : List Ln) (ss : List Sr) (xs : List Ct) (qs ws : List (List Int)) (o0 o1 o2 o3 o4 : AObj) (l0 l1 l2 l3 l4 : Option Loc),
    SL 0 m.a1 m.n1 m.c1 o0 ls.length (ls.flatMap Ln.cells) ∧ SL 1 m.a2 m.n2 m.c2 o1 ss.length (ss.flatMap Sr.cells) ∧ SL 2 m.a3 m.n3 m.c3 o2 xs.length (xs.flatMap Ct.cells) ∧ SL 3 m.a4 m.n4 m.c4 o3 qs.length (flatD qs) ∧ SL 4 m.a5 m.n5 m.c5 o4 ws.length (flatD ws) ∧ (∀ d ∈ qs, d.length = 32) ∧ (∀ d ∈ ws, d.length = 32) ∧
    ∀ E : Env, E 0 = l0 → E 1 = l1 → E 2 = l2 → E 3 = l3 → E 4 = l4 → F2 (VRel E) m.all cs ∧ OR Tryz.prog w.heap.size E w 0 o0 ∧ OR Tryz.prog w.heap.size E w 1 o1 ∧ OR Tryz.prog w.heap.size E w 2 o2 ∧ OR Tryz.prog w.heap.size E w 3 o3 ∧ OR Tryz.prog w.heap.size E w 4 o4 := by
  obtain ⟨h0, h⟩ := rd_field Tryz.underlying33 h
  rw [cz33] at h0
  simp only [List.mem_cons, List.not_mem_nil, or_false, forall_eq_or_imp, forall_eq, cz22, cz23, cz24, cz3, cz26, cz31] at h
  obtain ⟨h1, h2, h3, h4, h5, h6, h7⟩ := h
  obtain ⟨p, h1⟩ := rd_int Tryz.underlying3 h1
  obtain ⟨d, h2⟩ := rd_int Tryz.underlying3 h2
  obtain ⟨a1, n1, c1, o0, ls, l0, v1, e1, s1, r1⟩ := rd_slice (g := Ln.cells) 0 Tryz.underlying22 cz37 (by omega) Ln.len Ln.cc2 (fun ecs he => rd_line he) h3
  obtain ⟨a2, n2, c2, o1, ss, l1, v2, e2, s2, r2⟩ := rd_slice (g := Sr.cells) 1 Tryz.underlying23 cz104 (by omega) Sr.len Sr.cc2 (fun ecs he => rd_source he) h4
  obtain ⟨a3, n3, c3, o2, xs, l2, v3, e3, s3, r3⟩ := rd_slice (g := Ct.cells) 2 Tryz.underlying24 cz106 (by omega) Ct.len Ct.cc2 (fun ecs he => rd_content he) h5
  obtain ⟨rt, h6⟩ := rd_digest h6
  obtain ⟨_, h7⟩ := rd_field Tryz.underlying31 h7
  simp only [List.mem_cons, List.not_mem_nil, or_false, forall_eq_or_imp, forall_eq, cz27, cz29, cz3] at h7
  obtain ⟨b1, b2, b3⟩ := h7
  obtain ⟨_, b3⟩ := rd_field Tryz.underlying29 b3
  simp only [List.mem_cons, List.not_mem_nil, or_false, forall_eq_or_imp, forall_eq, cz27, cz3] at b3
  obtain ⟨b3, b4, b5⟩ := b3
  obtain ⟨si, b1⟩ := rd_int Tryz.underlying3 b1
  obtain ⟨pi, b3⟩ := rd_int Tryz.underlying3 b3
  obtain ⟨pc, b4⟩ := rd_int Tryz.underlying3 b4
  have hg : ∀ d : Nat → Int, (bytes (dgf d)).length = 32 := fun d => by rw [bytes_len, dgf_len]
  obtain ⟨a4, n4, c4, o3, ds4, l3, v4, e4, s4, r4⟩ := rd_slice (g := fun d => bytes (dgf d)) 3 Tryz.underlying27 cz26 (by omega) hg (fun _ => bytes_c2) (fun ecs he => rd_digest he) b2
  obtain ⟨a5, n5, c5, o4, ds5, l4, v5, e5, s5, r5⟩ := rd_slice (g := fun d => bytes (dgf d)) 4 Tryz.underlying27 cz26 (by omega) hg (fun _ => bytes_c2) (fun ecs he => rd_digest he) b5
  refine ⟨{ p := p, d := d, a1 := a1, n1 := n1, c1 := c1, a2 := a2, n2 := n2, c2 := c2, a3 := a3, n3 := n3, c3 := c3, rt := rt, si := si, a4 := a4, n4 := n4, c4 := c4, pi := pi, pc := pc, a5 := a5, n5 := n5, c5 := c5 }, ls, ss, xs, ds4.map dgf, ds5.map dgf, o0, o1, o2, o3, o4, l0, l1, l2, l3, l4, s1, s2, s3, flatG s4, flatG s5, map32 _, map32 _, ?_⟩
  intro E E0 E1 E2 E3 E4
  have g2 : (((cs.drop 37).take 5).drop 2).take 3 = [.int .i64 pi] ++ ([.int .i64 pc] ++ ([v5] ++ [])) := joi (k := 0) (n := 1) b3 (joi (k := 1) (n := 1) b4 (joi (k := 2) (n := 1) e5 (by simp)))
  have g1 : (cs.drop 37).take 5 = [.int .i64 si] ++ ([v4] ++ (_ ++ [])) := joi (k := 0) (n := 1) b1 (joi (k := 1) (n := 1) e4 (joi (k := 2) (n := 3) g2 (by simp)))
  have f : cs.drop 0 = _ := joi (k := 0) (n := 1) h1 (joi (k := 1) (n := 1) h2 (joi (k := 2) (n := 1) e1 (joi (k := 3) (n := 1) e2 (joi (k := 4) (n := 1) e3 (joi (k := 5) (n := 32) h6 (joi (k := 37) (n := 5) g1 (List.drop_eq_nil_of_le (by omega))))))))
  refine ⟨?_, (r1 E E0).2, (r2 E E1).2, (r3 E E2).2, (r4 E E3).2, (r5 E E4).2⟩
  rw [show cs = cs.drop 0 from rfl, f]
  simp only [List.cons_append, List.nil_append, List.append_nil]
  refine .cons (.int ..) (.cons (.int ..) (.cons (r1 E E0).1 (.cons (r2 E E1).1 (.cons (r3 E E2).1 (F2.app (F2.same bytes_c2) ?_)))))
  exact .cons (.int ..) (.cons (r4 E E3).1 (.cons (.int ..) (.cons (.int ..) (.cons (r5 E E4).1 .nil))))

theorem look5 (o0 o1 o2 o3 o4 : AObj) (i : Nat) : (h24 o0 o1 o2 o3 o4).get i = if 0 = i then o0 else if 1 = i then o1 else if 2 = i then o2 else if 3 = i then o3 else if 4 = i then o4 else .dead := by
  unfold Heap.get
  rw [look_cons, look_cons, look_cons, look_cons, look_cons]
  rfl
theorem heap_manifest2 {cs : List Value} (h : Rdb enc w base sp held 33 cs) : ∃ (m : Mg) (ls : List Ln) (ss : List Sr) (xs : List Ct) (qs ws : List (List Int)) (o0 o1 o2 o3 o4 : AObj) (E : Env),
    SL 0 m.a1 m.n1 m.c1 o0 ls.length (ls.flatMap Ln.cells) ∧ SL 1 m.a2 m.n2 m.c2 o1 ss.length (ss.flatMap Sr.cells) ∧ SL 2 m.a3 m.n3 m.c3 o2 xs.length (xs.flatMap Ct.cells) ∧ SL 3 m.a4 m.n4 m.c4 o3 qs.length (flatD qs) ∧ SL 4 m.a5 m.n5 m.c5 o4 ws.length (flatD ws) ∧ (∀ d ∈ qs, d.length = 32) ∧ (∀ d ∈ ws, d.length = 32) ∧
    HRel Tryz.prog w.heap.size E (h24 o0 o1 o2 o3 o4) w ∧ F2 (VRel E) m.all cs := by
  obtain ⟨m, ls, ss, xs, qs, ws, o0, o1, o2, o3, o4, l0, l1, l2, l3, l4, s1, s2, s3, s4, s5, q1, q2, hE⟩ := rd_manifest2 h
  let E : Env := fun i => if i = 0 then l0 else if i = 1 then l1 else if i = 2 then l2 else if i = 3 then l3 else if i = 4 then l4 else none
  obtain ⟨hF, r0, r1, r2, r3, r4⟩ := hE E rfl rfl rfl rfl rfl
  have hm : ∀ {j n c k : Nat} {a : Option Addr} {o : AObj} {cs : List Value}, SL j a n c o k cs → o.mut = false := fun h => by
    rcases h with ⟨_, _, _, rfl, _⟩ | ⟨_, _, rfl, _, _⟩ <;> rfl
  refine ⟨m, ls, ss, xs, qs, ws, o0, o1, o2, o3, o4, E, s1, s2, s3, s4, s5, q1, q2, ⟨Nat.le_refl _, fun id lo h => ?_, fun id => ?_, fun i j li lj hi hj hi' => ?_⟩, hF⟩
  · show id < 5
    by_cases h5 : id < 5
    · exact h5
    · have : E id = none := by
        show (if id = 0 then l0 else if id = 1 then l1 else if id = 2 then l2 else if id = 3 then l3 else if id = 4 then l4 else none) = none
        rw [if_neg (by omega), if_neg (by omega), if_neg (by omega), if_neg (by omega), if_neg (by omega)]
      rw [this] at h
      cases h
  · rw [look5]
    split
    · subst_vars; exact r0
    · split
      · subst_vars; exact r1
      · split
        · subst_vars; exact r2
        · split
          · subst_vars; exact r3
          · split
            · subst_vars; exact r4
            · trivial
  · rw [look5] at hi'
    split at hi'
    · rw [hm s1] at hi'; cases hi'
    · split at hi'
      · rw [hm s2] at hi'; cases hi'
      · split at hi'
        · rw [hm s3] at hi'; cases hi'
        · split at hi'
          · rw [hm s4] at hi'; cases hi'
          · split at hi'
            · rw [hm s5] at hi'; cases hi'
            · cases hi'
theorem call7 (h9 : ∀ H, Does Tryz.prog 9 [] H (.bool true) H) {a b : Array Value} {z : Int} (h0 : Rdb enc w base sp held 33 a.toList) (h1 : Rdb enc w base sp held 26 b.toList) :
    Calls Tryz.prog 7 #[.agg a, .agg b, .int .i64 z] w fun e w' => e = .returned (.bool true) ∧ Below w.heap.size w w' := by
  obtain ⟨m, ls, ss, xs, qs, ws, o0, o1, o2, o3, o4, E, s1, s2, s3, s4, s5, q1, q2, hH, hF⟩ := heap_manifest2 h0
  obtain ⟨s, hs⟩ := rd_digest h1
  have hd := does7 h9 s1 s2 s3 s4 s5 q1 q2 (s := dgf s) (dgf_len _) z
  have hA : LRel E [.agg m.all.toArray, dig (dgf s), i64 z] #[.agg a, .agg b, .int .i64 z] :=
    ARel.of_F2 (l' := [.agg a, .agg b, .int .i64 z]) (.cons (.agg' (by simpa using ARel.of_F2 hF)) (.cons (.agg' (by rw [← hs]; simpa using ARel.of_F2 (F2.same (E := E) (l := b.toList) (by rw [hs]; exact bytes_c2)))) (.cons (.int ..) .nil)))
  refine (hd w.heap.size E w _ hH hA).mono ?_
  rintro e w' ⟨E', v', _, _, hv, hB, rfl⟩
  cases hv
  exact ⟨rfl, hB⟩
end
end Go.Abs
namespace Go.Proofs.YtkkocgjpfakfpaaGreat.manifestAccepts
open Go.ChangeShapes Go.WideShapes Go.ChangeAt Go.RowKit Go.Abs
open Go.Proofs.YtkkocgjpfakfpaaGreat
set_option linter.unusedVariables false

theorem own : ownKnob Tryz.prog.godebug = none := by kernel_rfl
theorem laidOut : laidOutB Tryz.prog = true := by kernel_rfl

noncomputable def z33l : List Value := [.int .i64 0, .int .i64 0, .slice none 0 0, .slice none 0 0, .slice none 0 0] ++ List.replicate 32 (.int .u8 0) ++ [.int .i64 0, .slice none 0 0, .int .i64 0, .int .i64 0, .slice none 0 0]
noncomputable def z33 : Array Value := z33l.toArray
noncomputable def z26 : Array Value := (List.replicate 32 (.int .u8 0)).toArray

set_option maxRecDepth 100000 in
theorem lifted (h9 : ∀ H, Does Tryz.prog 9 [] H (.bool true) H) (os : Os) (started : os.Started) (H : Type) (enc : TypeId × Value → H) :
    ReturnsInHanded {} Tryz.checked os 7 .any (Rows.manifestAcceptsSpec.pre6 enc Tryz.prog Tryz.f7 Rows.manifestAcceptsRow.domain false) (Rows.manifestAcceptsSpec.post enc Tryz.prog Tryz.f7 false true false false) := by
  refine returnsInHanded_of_change (C := Tryz.checked) own started (by kernel_rfl) Tryz.func7
    (ChangeSpec.witness6 (enc := enc) (C := Tryz.checked) false ⟨#[], #[.agg z33, .agg z26, .int .i64 0], []⟩ 8 (by kernel_rfl) (by kernel_rfl) (by kernel_rfl) (by kernel_rfl)) ?_
  intro W base args ds gs before hval0 hW hcnd _
  have hval : ∀ (j : Nat) t v, Tryz.f7.params[j]? = some t → args[j]? = some v → Value.okWide Tryz.prog W .any base t v := hval0
  have hW' := hW
  obtain ⟨p, q, hA0, hV, rfl, hfz, hnd⟩ := hW
  have hA : DataW.TrodAll enc Tryz.prog W 0 (fun _ => true) true Tryz.f7.params.toList args.toList ds p := hA0
  rw [Tryz.params7] at hA hval
  obtain ⟨v0, vs0, d0, ds0, p0, q0, hargs, rfl, rfl, h0, r0⟩ := trodAll_cons hA
  obtain ⟨v1, vs1, d1, ds1, p1, q1, rfl, rfl, rfl, h1, r1⟩ := trodAll_cons r0
  obtain ⟨v2, vs2, d2, ds2, p2, q2, rfl, rfl, rfl, h2, r2⟩ := trodAll_cons r1
  obtain ⟨rfl, rfl, rfl⟩ := trodAll_nil r2
  obtain rfl : args = #[v0, v1, v2] := by cases args; simp_all
  obtain ⟨rfl, rfl⟩ := trodVars_none hV
  obtain ⟨c0, rfl, _⟩ := okWide_struct Tryz.underlying33 (hval 0 33 v0 rfl rfl)
  obtain ⟨c1, rfl⟩ := okWide_array Tryz.underlying26 (hval 1 26 v1 rfl rfl)
  obtain ⟨z, rfl⟩ := okWide_int Tryz.underlying3 (hval 2 3 v2 rfl rfl)
  have k0 := h0
  have k1 := h1
  have k2 := h2
  have lt0 : ∀ x ∈ p0, x.block < W.heap.size := by obtain ⟨m, hm⟩ := k0; exact DataW.trod_lt m _ _ _ hm
  have lt1 : ∀ x ∈ p1, x.block < W.heap.size := by obtain ⟨m, hm⟩ := k1; exact DataW.trod_lt m _ _ _ hm
  have lt2 : ∀ x ∈ p2, x.block < W.heap.size := by obtain ⟨m, hm⟩ := k2; exact DataW.trod_lt m _ _ _ hm
  clear hA0 hval0
  obtain ⟨f0, hf0⟩ := h0
  obtain ⟨f1, hf1⟩ := h1
  refine (call7 (enc := enc) (base := 0) (sp := fun _ => true) (held := true) h9 ⟨f0, _, hf0⟩ ⟨f1, _, hf1⟩).mono fun e W' ⟨he, bel⟩ => ?_
  subst he
  exact ⟨_, rfl, _, _, _, [], _, [], hW', trodAll_mk1 (shut_bool Tryz.underlying4 _), trodAll_cons_mk (Below.trod laidOut (by kernel_rfl) (of_decide_eq_true (by kernel_rfl)) k0 bel lt0) (trodAll_cons_mk (Below.trod laidOut (by kernel_rfl) (of_decide_eq_true (by kernel_rfl)) k1 bel lt1) (trodAll_cons_mk (Below.trod laidOut (by kernel_rfl) (of_decide_eq_true (by kernel_rfl)) k2 bel lt2) trodAll_mk0)), rfl, bel.frame _, fun h => by cases h⟩
end Go.Proofs.YtkkocgjpfakfpaaGreat.manifestAccepts

