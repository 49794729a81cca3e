/- For every manifest, seed and index the statements ManifestSigns and ManifestAccepts of law 40 hold, with no condition. -/
import Derived.Test.YtkkocgjpfakfpaaGreatWSd
set_option linter.unusedSimpArgs false
set_option linter.unusedVariables false
namespace Go.Abs
open Go.Proofs
set_option maxRecDepth 1000000

theorem clO_shd {n : Nat} {cs : List Value} {e : TypeId} (h : ∀ v ∈ cs, c2 v = true) : Shd (clO n cs e) := by
  cases n with
  | zero => exact .inr rfl
  | succ n => exact .inl ⟨cs, e, .inl rfl, h⟩
theorem clA_RV {σ : Nat → Option Nat} {a : Option Addr} {n i j : Nat} (h : n ≠ 0 → σ j = some i) : RV σ (.slice (clA a n i) n (clC n)) (.slice (clA a n j) n (clC n)) := by
  cases n with
  | zero => cases a with
    | none => exact .closed rfl
    | some a => exact .anonE
  | succ n => exact .slice (h (by omega))
/-- A whole manifest that came in. -/
structure MgI (m : Mg) (o0 o1 o2 o3 o4 : AObj) (ls : List Ln) (ss : List Sr) (xs : List Ct) : Prop where
  f : m.toMf.ok o0 o1 o2 ls ss xs
  p : SN 3 m.a4 m.n4 m.c4
  q : SN 4 m.a5 m.n5 m.c5
  o3 : ∀ σ : Nat → Option Nat, RO σ o3 o3
  o4 : ∀ σ : Nat → Option Nat, RO σ o4 o4
  few : (leaves m.toMf ls ss xs).length ≤ 63
theorem MgI.rv {m : Mg} {o0 o1 o2 o3 o4 : AObj} {ls : List Ln} {ss : List Sr} {xs : List Ct} (h : MgI m o0 o1 o2 o3 o4 ls ss xs) {σ : Nat → Option Nat} (h0 : σ 0 = some 0) (h1 : σ 1 = some 1) (h2 : σ 2 = some 2) (h3 : σ 3 = some 3) (h4 : σ 4 = some 4) : F2 (RV σ) m.all m.all :=
  .cons (.closed rfl) (.cons (.closed rfl) (.cons (h.f.l.rv h0) (.cons (h.f.s.rv h1) (.cons (h.f.x.rv h2) (F2.append2 (RV.all bytes_c2) (.cons (.closed rfl) (.cons (h.p.rv (j := 3) h3) (.cons (.closed rfl) (.cons (.closed rfl) (.cons (h.q.rv (j := 4) h4) .nil))))))))))
theorem obL {m : Mg} {o0 o1 o2 o3 o4 : AObj} {ls : List Ln} {ss : List Sr} {xs : List Ct} (h : MgI m o0 o1 o2 o3 o4 ls ss xs) {s : List Int} {σ : List (Nat × Nat)} {is : List Nat} {os : List AObj} {l : List (Nat × AObj)} (ho : F2 (fun (p q : Nat × AObj) => sg 7 σ q.1 = some p.1 ∧ RO (sg 7 σ) p.2 q.2) (is.zip os) l) :
    F2 (fun (p q : Nat × AObj) => sg 7 σ q.1 = some p.1 ∧ RO (sg 7 σ) p.2 q.2) (([0,1,2,3,4,5,6] ++ is).zip (vL o0 o1 o2 o3 o4 m.all (bytes s) ++ os)) (bL o0 o1 o2 o3 o4 m.all (bytes s) ++ l) :=
  .cons ⟨rfl, h.f.l.ro⟩ (.cons ⟨rfl, h.f.s.ro⟩ (.cons ⟨rfl, h.f.x.ro⟩ (.cons ⟨rfl, h.o3 _⟩ (.cons ⟨rfl, h.o4 _⟩ (.cons ⟨rfl, .cells (h.rv rfl rfl rfl rfl rfl)⟩ (.cons ⟨rfl, .cells (RV.all bytes_c2)⟩ ho))))))
theorem ro_z33 {σ : Nat → Option Nat} : RO σ z33o z33o := .cells (RV.all (by
  intro v hv
  have : z33o = z33o := rfl
  have h2 : (mcs 0 0 none 0 0 none 0 0 none 0 0 (zD ++ [i64 0, nilS, i64 0, i64 0, nilS])).all c2 = true := by kernel_rfl
  exact List.all_eq_true.1 h2 v hv))
theorem ro_one {σ : Nat → Option Nat} {v : Value} {e : TypeId} (h : c2 v = true) : RO σ (.cells [v] e) (.cells [v] e) := .cells (.cons (.closed h) .nil)
theorem keepL {o0 o1 o2 o3 o4 : AObj} {mc s : List Value} {H : Heap} (hn : 7 ≤ H.next) (hg : ∀ (j : Nat) (o : Nat × AObj), (([0,1,2,3,4,5,6] : List Nat).zip (vL o0 o1 o2 o3 o4 mc s))[j]? = some o → H.get o.1 = o.2) : Keep (mkH 7 (bL o0 o1 o2 o3 o4 mc s) []) H := ⟨hn, fun id hid => by
  have : id = 0 ∨ id = 1 ∨ id = 2 ∨ id = 3 ∨ id = 4 ∨ id = 5 ∨ id = 6 := by have : id < 7 := hid; omega
  rcases this with rfl | rfl | rfl | rfl | rfl | rfl | rfl
  · exact hg 0 _ rfl
  · exact hg 1 _ rfl
  · exact hg 2 _ rfl
  · exact hg 3 _ rfl
  · exact hg 4 _ rfl
  · exact hg 5 _ rfl
  · exact hg 6 _ rfl⟩
theorem flatLn_len (ls : List Ln) : (ls.flatMap Ln.cells).length = ls.length * 38 := by
  induction ls with
  | nil => rfl
  | cons l ls ih => rw [List.flatMap_cons, List.length_append, ih, l.len, List.length_cons]; omega
theorem flatSr_len (ls : List Sr) : (ls.flatMap Sr.cells).length = ls.length * 2 := by
  induction ls with
  | nil => rfl
  | cons l ls ih => rw [List.flatMap_cons, List.length_append, ih, List.length_cons]; show 2 + _ = _; omega
theorem flatCt_len (ls : List Ct) : (ls.flatMap Ct.cells).length = ls.length * 66 := by
  induction ls with
  | nil => rfl
  | cons l ls ih =>
    have : l.cells.length = 66 := by simp [Ct.cells, bytes_len, dgf_len, i64s]
    rw [List.flatMap_cons, List.length_append, ih, this, List.length_cons]; omega
theorem flat_c2 {α : Type} (g : α → List Value) (h : ∀ x, ∀ v ∈ g x, c2 v = true) (l : List α) : ∀ v ∈ l.flatMap g, c2 v = true := fun v hv => by
  obtain ⟨x, _, hx⟩ := List.mem_flatMap.1 hv
  exact h x v hx
/-- The message that is signed, the parts and the way. -/
abbrev rtM (m : Mf) (ls : List Ln) (ss : List Sr) (xs : List Ct) : List Int := rootS (leaves m ls ss xs)
def obS (m : Mf) (ls : List Ln) (ss : List Sr) (xs : List Ct) (ps way : List (List Int)) : List AObj := [clO m.n1 (ls.flatMap Ln.cells) 37, clO m.n2 (ss.flatMap Sr.cells) 104, clO m.n3 (xs.flatMap Ct.cells) 106, grD ps, grD way]
theorem obS_shd {m : Mf} {ls : List Ln} {ss : List Sr} {xs : List Ct} {ps way : List (List Int)} : ∀ ob ∈ obS m ls ss xs ps way, Shd ob := fun ob hob => by
  simp only [obS, List.mem_cons, List.not_mem_nil, or_false] at hob
  rcases hob with rfl | rfl | rfl | rfl | rfl
  · exact clO_shd (flat_c2 _ (fun x => x.cc2) _)
  · exact clO_shd (flat_c2 _ (fun x => x.cc2) _)
  · exact clO_shd (flat_c2 _ (fun x => x.cc2) _)
  · exact .inl .gr
  · exact .inl .gr
theorem does20 {m : Mg} {o0 o1 o2 o3 o4 : AObj} {ls : List Ln} {ss : List Sr} {xs : List Ct} (h : MgI m o0 o1 o2 o3 o4 ls ss xs) {s : List Int} (hs : s.length = 32) {i : Nat} (hi : i < 4) :
    Does Tryz.prog 20 [.agg m.all.toArray, dig s, i64 (i : Int)] (mkH 7 (bL o0 o1 o2 o3 o4 m.all (bytes s)) []) (.tuple #[.agg (mR m.toMf 7 (bytes (rtM m.toMf ls ss xs)) (i : Int) 10 (wayS i (leavesS s)).length).toArray, i64 0])
      (pushAll (mkH 7 (bL o0 o1 o2 o3 o4 m.all (bytes s)) []) (obS m.toMf ls ss xs (partS s i (rtM m.toMf ls ss xs)) (wayS i (leavesS s)))) := by
  refine newsD_of_awp Tryz.func20 (c := codeOf Tryz.f20 []) rfl (H := mkH 7 (bL o0 o1 o2 o3 o4 m.all (bytes s)) []) obS_shd (awp_of_awn (n := 7) ?_ (Nat.le_refl _))
  have hfs : dgf (fn s) = s := dgf_of hs
  have hxl : (rtM m.toMf ls ss xs).length = 32 := rootS_len _
  have hfx : dgf (fn (rtM m.toMf ls ss xs)) = rtM m.toMf ls ss xs := dgf_of hxl
  generalize hx : rtM m.toMf ls ss xs = x at *
  generalize hw : wayS i (leavesS s) = way
  generalize hp : partS s i x = ps
  have hra := r20a o0 o1 o2 o3 o4 m (fn s) (fn x) (i : Int) ls ss xs
  have hrb := r20b o0 o1 o2 o3 o4 m (fn s) (fn x) i (i : Int) ps way
  have hrc := r20c o0 o1 o2 o3 o4 m (fn s) (fn x) (i : Int) ps way ls ss xs
  rw [hfs, hfx] at hra hrb hrc
  have hD : ∀ σ : List (Nat × Nat), sg 7 σ 9 = some 9 → sg 7 σ 10 = some 10 → F2 (fun (d d2 : FuncId × List Value) => d.1 = d2.1 ∧ F2 (RV (sg 7 σ)) d.2 d2.2) D20 D20 := fun σ h3 h4 => .cons ⟨rfl, .cons (.ptr h3) (.cons (.ptr h4) .nil)⟩ .nil
  refine pieceSX pCall_sound (callO_sound (mr12 _ _ _ _ _)) 3 hra rfl ⟨⟨Mf.lvc h.f rfl rfl rfl m.rest_len, h.few, hx.symm⟩, trivial⟩ rfl 12 [(7, 7), (8, 8), (9, 9), (10, 10), (11, 11)] (k2 := k20 (i : Int)) (os2 := bL o0 o1 o2 o3 o4 m.all (bytes s) ++ w20 m.all (bytes s) (bytes x)) (D2 := D20) rfl
    (.cons ⟨rfl, .closed rfl⟩ (.cons ⟨rfl, .ptr rfl⟩ (.cons ⟨rfl, .ptr rfl⟩ (.cons ⟨rfl, .ptr rfl⟩ (.cons ⟨rfl, .ptr rfl⟩ (.cons ⟨rfl, .ptr rfl⟩ .nil))))))
    (obL (is := [7,8,9,10,11]) h (.cons ⟨rfl, .cells (h.rv rfl rfl rfl rfl rfl)⟩ (.cons ⟨rfl, .cells (RV.all bytes_c2)⟩ (.cons ⟨rfl, ro_z33⟩ (.cons ⟨rfl, ro_one rfl⟩ (.cons ⟨rfl, .cells (RV.all bytes_c2)⟩ .nil)))))) (hD _ rfl rfl) ?_
  refine pieceDX hm (fs47 _ _ _ _ _) pCall_sound hrb ⟨rfl, rfl, trivial, rfl, rfl, trivial, rfl, trivial, rfl, ⟨hs, rfl, rfl, hi, by rw [hxl]; omega, hxl.symm, by rw [List.drop_zero]; exact List.take_of_length_le (by rw [bytes_len, hxl]; exact Nat.le_refl _), by rw [bytes_len, hxl]; exact Nat.le_refl _, hp.symm, hw.symm⟩, rfl, trivial, rfl, trivial, rfl, trivial, rfl, trivial⟩ 15 [(7, 7), (8, 8), (9, 9), (10, 10), (11, 11), (12, 12), (13, 13), (14, 14)]
    (k2 := [(3, pt 7), (4, pt 8), (6, pt 9), (7, pt 10), (8, pt 11), (9, pt 14)]) (os2 := l20 o0 o1 o2 o3 o4 m.all (bytes s) (bytes x) (i : Int) ps way) (D2 := D20) rfl
    (.cons ⟨rfl, .ptr rfl⟩ (.cons ⟨rfl, .ptr rfl⟩ (.cons ⟨rfl, .ptr rfl⟩ (.cons ⟨rfl, .ptr rfl⟩ (.cons ⟨rfl, .ptr rfl⟩ (.cons ⟨rfl, .ptr rfl⟩ .nil))))))
    (obL (is := [7,8,9,10,11,12,13,14]) h (.cons ⟨rfl, .cells (h.rv rfl rfl rfl rfl rfl)⟩ (.cons ⟨rfl, .cells (RV.all bytes_c2)⟩ (.cons ⟨rfl, ro_z33⟩ (.cons ⟨rfl, ro_one rfl⟩ (.cons ⟨rfl, .cells (RV.all bytes_c2)⟩ (.cons ⟨rfl, RO.grD⟩ (.cons ⟨rfl, RO.grD⟩ (.cons ⟨rfl, .cells (.cons (.closed rfl) (.cons (.slice rfl) (.cons (.closed rfl) (.cons (.closed rfl) (.cons (.slice rfl) .nil)))))⟩ .nil))))))))) (hD _ rfl rfl) ?_
  refine pieceF hm pCall_sound (oo20_sound _ _ _) hrc ⟨rfl, rfl, rfl, rfl, rfl, rfl, ⟨h.f.x.slh rfl, flatCt_len _, h.f.bx⟩, rfl, rfl, rfl, rfl, ⟨h.f.s.slh rfl, flatSr_len _, h.f.bs⟩, rfl, rfl, rfl, ⟨h.f.l.slh rfl, flatLn_len _, h.f.bl⟩, rfl, rfl, trivial⟩ ?_
  intro e T H he hr hn hg
  cases tag1 he
  have g : ∀ (j : Nat) o, (([0,1,2,3,4,5,6,12,13,15,16,17] : List Nat).zip (vL o0 o1 o2 o3 o4 m.all (bytes s) ++ [grD ps, grD way, clO m.n1 (ls.flatMap Ln.cells) 37, clO m.n2 (ss.flatMap Sr.cells) 104, clO m.n3 (xs.flatMap Ct.cells) 106]))[j]? = some o → H.get o.1 = o.2 := fun j o ho => hg o (List.mem_of_getElem? ho)
  have g12 := g 7 _ rfl
  have g13 := g 8 _ rfl
  have g15 := g 9 _ rfl
  have g16 := g 10 _ rfl
  have g17 := g 11 _ rfl
  refine ⟨.inr rfl, rfl, _, hr, ⟨[15, 16, 17, 12, 13], by simp, fun id hid => ?_, ?_, fun σ hσ => ?_⟩, keepL (by rw [hn]; show 7 ≤ 18; omega) fun j o ho => ?_⟩
  · simp only [List.mem_cons, List.not_mem_nil, or_false] at hid
    show 7 ≤ id
    omega
  · show [H.get 15, H.get 16, H.get 17, H.get 12, H.get 13] = _
    rw [g12, g13, g15, g16, g17]; rfl
  · have hc : ∀ {n : Nat} {cs : List Value} {e : TypeId}, (∀ v ∈ cs, c2 v = true) → n ≠ 0 → Shut (clO n cs e) := fun {n} {cs} {e} hc h0 => by
      cases n with
      | zero => exact absurd rfl h0
      | succ n => exact ⟨cs, e, .inl rfl, hc⟩
    refine .tuples (l := [.agg (mR m.toMf 15 (bytes x) (i : Int) 12 way.length).toArray, i64 0]) (m := [.agg (mR m.toMf 7 (bytes x) (i : Int) 10 way.length).toArray, i64 0]) (.cons (.aggs ?_) (.cons (.closed rfl) .nil))
    refine .cons (.closed rfl) (.cons (.closed rfl) (.cons (clA_RV fun h0 => hσ 0 15 rfl (by rw [g15]; exact hc (flat_c2 _ (fun x => x.cc2) _) h0)) (.cons (clA_RV fun h0 => hσ 1 16 rfl (by rw [g16]; exact hc (flat_c2 _ (fun x => x.cc2) _) h0)) (.cons (clA_RV fun h0 => hσ 2 17 rfl (by rw [g17]; exact hc (flat_c2 _ (fun x => x.cc2) _) h0)) (F2.append2 (RV.all bytes_c2) (.cons (.closed rfl) (.cons (.slice (hσ 3 12 rfl (by rw [g12]; exact .gr))) (.cons (.closed rfl) (.cons (.closed rfl) (.cons (.slice (hσ 4 13 rfl (by rw [g13]; exact .gr))) .nil))))))))))
  · refine g j o ?_
    have hj : j < 7 := by
      have := (List.getElem?_eq_some_iff.1 ho).1
      simpa using this
    have : j = 0 ∨ j = 1 ∨ j = 2 ∨ j = 3 ∨ j = 4 ∨ j = 5 ∨ j = 6 := by omega
    rcases this with rfl | rfl | rfl | rfl | rfl | rfl | rfl <;> exact ho
end Go.Abs

namespace Go.Abs
open Go.Proofs
open Go.RowKit (Below)
set_option maxRecDepth 1000000

theorem OR.live {P : Program} {B : Nat} {E : Env} {w : World} {id : Nat} {o : AObj} (h : OR P B E w id o) (hn : o ≠ .dead) : ∃ l, E id = some l := by
  cases he : E id with
  | none => exact absurd (h.some_of he) hn
  | some l => exact ⟨l, rfl⟩
/-- New rows, and old names in the result. -/
theorem newsO_of_awp {P : Program} {f : FuncId} {fn : Func} {c : Code} (hf : P.funcs[f]? = some fn) (hb : fn.body = some c) {args : List Value} {H : Heap} {obs : List AObj} {v : Value} (hs : ∀ ob ∈ obs, Shut ob)
    (h : Awp P c (fun ex T' H' D' => (ex = .normal ∨ ex = .ret) ∧ (D'.all fun d => quietDefer P d.1 && callable P d.1) = true ∧ ∃ u, resA P fn T' H' = some u ∧ (∃ ids : List Nat, ids.Nodup ∧ (∀ id ∈ ids, H.next ≤ id) ∧ ids.map H'.get = obs ∧ ∀ σ : Nat → Option Nat, (∀ k id, ids[k]? = some id → σ (H.next + k) = some id) → (∀ id, id < H.next → H.get id ≠ .dead → σ id = some id) → RV σ u v) ∧ Keep H H') (args ++ List.replicate (fn.ntmps - args.length) undef) H []) :
    Does P f args H v (pushAll H obs) := by
  classical
  intro B E w args' hH hA
  refine (awp_weak (R := fun u H' => (∃ ids : List Nat, ids.Nodup ∧ (∀ id ∈ ids, H.next ≤ id) ∧ ids.map H'.get = obs ∧ ∀ σ : Nat → Option Nat, (∀ k id, ids[k]? = some id → σ (H.next + k) = some id) → (∀ id, id < H.next → H.get id ≠ .dead → σ id = some id) → RV σ u v) ∧ Keep H H') hf hb h B E w args' hH hA).mono ?_
  rintro en w' ⟨E', u, v', H', ⟨⟨ids, hn, hlo, hob, hr⟩, hk⟩, h1, h2, h3, h4, h5⟩
  have hback := hH.back h1 h2 hk
  obtain ⟨E2, g1, g2, g3⟩ := addNews h2 (Nat.le_refl B) ids E H hback (fun id hid => hs _ (by rw [← hob]; exact List.mem_map_of_mem hid)) hn (fun j lj hj mj => .inr ⟨j, fun hm => by
    have := hlo j hm
    have := hH.dom _ _ hj
    omega, h1 _ _ hj, by rw [hk.get j (hH.dom _ _ hj)]; exact mj⟩)
  rw [hob] at g2
  refine ⟨E2, v', g1, g2, ?_, h4, h5⟩
  have q := hr (fun j => if H.next ≤ j then ids[j - H.next]? else if H.get j ≠ .dead then some j else none) (fun k id hk => by
    show (if H.next ≤ H.next + k then ids[H.next + k - H.next]? else _) = _
    rw [if_pos (by omega), Nat.add_sub_cancel_left]; exact hk) (fun id hid hd => by
    show (if H.next ≤ id then _ else if H.get id ≠ .dead then some id else none) = _
    rw [if_neg (by omega), if_pos hd]) E' v' h3
  refine q.mono fun j l hj => ?_
  simp only [ren] at hj
  by_cases hb : H.next ≤ j
  · rw [if_pos hb] at hj
    cases hi : ids[j - H.next]? with
    | none => rw [hi] at hj; cases hj
    | some id =>
      rw [hi] at hj
      have := g3 _ _ hi
      rw [show H.next + (j - H.next) = j by omega] at this
      rw [this]; exact hj
  · rw [if_neg hb] at hj
    by_cases hd : H.get j ≠ .dead
    · rw [if_pos hd] at hj
      obtain ⟨l0, hl0⟩ := (hH.obj j).live hd
      have e1 := h1 _ _ hl0
      have e2 := g1 _ _ hl0
      have hj' : E' j = some l := hj
      rw [e1] at hj'
      cases hj'
      exact e2
    · rw [if_neg hd] at hj; cases hj

/-- The bytes of a digest, at any time. -/
def fbG : List Value → Heap → Nat → Option (Value × List AObj × Prop) := fun args _ id => match args with
  | [.agg vs] => some (sl id 32, [gr vs.toList], BytC vs.toList)
  | _ => none
theorem fb36 : SoundF Tryz.prog (fcO Tryz.prog 36 fbG) := fcO_sound fun args H id v obs c h hc => by
  unfold fbG at h
  split at h
  case h_2 => cases h
  rename_i vs
  cases h
  refine ⟨fun ob hob => ?_, fun H2 _ => ⟨_, bytG_sound.eff 36 _ (roH H2) _ _ _ rfl hc, fun σ hσ => .slice (by show σ id = some H2.next; simpa using hσ 0 (by simp))⟩⟩
  rw [List.mem_singleton.1 hob]
  refine ⟨_, _, .inl rfl, fun v hv => ?_⟩
  have := hc.2 v hv
  cases v with
  | int k b => rfl
  | _ => cases this

-- a bad index
abbrev zMan : Value := .tuple #[.agg (mcs 0 0 none 0 0 none 0 0 none 0 0 (zD ++ [i64 0, nilS, i64 0, i64 0, nilS])).toArray, i64 1]
theorem zMan_c2 : c2 zMan = true := by kernel_rfl
theorem r20y (o0 o1 o2 o3 o4 : AObj) (m : Mg) (s x : Nat → Int) (z : Int) : (dxC Tryz.prog (fcO Tryz.prog 47 (fzG (dgf s) (dgf x))) pCall 8 [[], [], [], [], [], [], [], [z31]] f20 (codeOf Tryz.f20 [1,1,1,1]) ⟨⟨mkT 47 (k20 z) jX, mkH 12 (bL o0 o1 o2 o3 o4 m.all (bytes (dgf s)) ++ w20 m.all (bytes (dgf s)) (bytes (dgf x))) [], D20⟩, True⟩).map (obs3 [3,4,6,7,8,9] [0,1,2,3,4,5,6,9,10])
  = some (⟨0, [pt 7, pt 8, pt 9, pt 10, pt 11, pt 12], 47, 13, vL o0 o1 o2 o3 o4 m.all (bytes (dgf s)) ++ [z33o, .cells [i64 1] 43], D20⟩,
    EfN D20 (EfN D20 (FrN True [z31] (PuN (RdN (RdN (FrN (SzC (dgf s) (dgf x) (dig (dgf s)) z 32 0 (bytes (dgf x))) [] (RdN (RdN (RdN True)))))))))) := by kernel_rfl
theorem r20z (o0 o1 o2 o3 o4 : AObj) (m : Mg) (s : Nat → Int) : (ex3 Tryz.prog pCall noOO 60 (codeOf Tryz.f20 [1,1,1,1,1]) ⟨⟨mkT 47 [(3, jk), (4, jk), (6, pt 9), (7, pt 10), (8, jk), (9, jk)] jX, mkH 13 (bL o0 o1 o2 o3 o4 m.all (bytes (dgf s)) ++ [(9, z33o), (10, .cells [i64 1] 43)]) [], D20⟩, True⟩).map (fin3 Tryz.prog Tryz.f20 [0,1,2,3,4,5,6])
  = some (⟨1, some zMan, 13, vL o0 o1 o2 o3 o4 m.all (bytes (dgf s)), D20⟩, EqN (i64 1) True) := by kernel_rfl
theorem getL {o0 o1 o2 o3 o4 : AObj} {mc s : List Value} {H : Heap} {is : List Nat} {os : List AObj} (hg : ∀ p ∈ (([0,1,2,3,4,5,6] ++ is : List Nat).zip (vL o0 o1 o2 o3 o4 mc s ++ os)), H.get p.1 = p.2) : ∀ (j : Nat) (o : Nat × AObj), (([0,1,2,3,4,5,6] : List Nat).zip (vL o0 o1 o2 o3 o4 mc s))[j]? = some o → H.get o.1 = o.2 := fun j o ho => by
  refine hg o ?_
  have hj : j < 7 := by
    have := (List.getElem?_eq_some_iff.1 ho).1
    simpa using this
  have : j = 0 ∨ j = 1 ∨ j = 2 ∨ j = 3 ∨ j = 4 ∨ j = 5 ∨ j = 6 := by omega
  rcases this with rfl | rfl | rfl | rfl | rfl | rfl | rfl
  · cases ho; exact .head _
  · cases ho; exact .tail _ (.head _)
  · cases ho; exact .tail _ (.tail _ (.head _))
  · cases ho; exact .tail _ (.tail _ (.tail _ (.head _)))
  · cases ho; exact .tail _ (.tail _ (.tail _ (.tail _ (.head _))))
  · cases ho; exact .tail _ (.tail _ (.tail _ (.tail _ (.tail _ (.head _)))))
  · cases ho; exact .tail _ (.tail _ (.tail _ (.tail _ (.tail _ (.tail _ (.head _))))))
theorem take32 {x : List Int} (hxl : x.length = 32) : ((bytes x).drop 0).take 32 = bytes x := by rw [List.drop_zero]; exact List.take_of_length_le (by rw [bytes_len, hxl]; exact Nat.le_refl _)
theorem does20z {m : Mg} {o0 o1 o2 o3 o4 : AObj} {ls : List Ln} {ss : List Sr} {xs : List Ct} (h : MgI m o0 o1 o2 o3 o4 ls ss xs) {s : List Int} (hs : s.length = 32) {z : Int} (hz : z < 0 ∨ 4 ≤ z) :
    Does Tryz.prog 20 [.agg m.all.toArray, dig s, i64 z] (mkH 7 (bL o0 o1 o2 o3 o4 m.all (bytes s)) []) zMan (mkH 7 (bL o0 o1 o2 o3 o4 m.all (bytes s)) []) := by
  refine val_of_awp Tryz.func20 (c := codeOf Tryz.f20 []) rfl zMan_c2 (awp_of_awn (n := 7) ?_ (Nat.le_refl _))
  have hfs : dgf (fn s) = s := dgf_of hs
  have hxl : (rtM m.toMf ls ss xs).length = 32 := rootS_len _
  have hfx : dgf (fn (rtM m.toMf ls ss xs)) = rtM m.toMf ls ss xs := dgf_of hxl
  generalize hx : rtM m.toMf ls ss xs = x at *
  have hra := r20a o0 o1 o2 o3 o4 m (fn s) (fn x) z ls ss xs
  have hrb := r20y o0 o1 o2 o3 o4 m (fn s) (fn x) z
  have hrc := r20z o0 o1 o2 o3 o4 m (fn s)
  rw [hfs, hfx] at hra hrb
  rw [hfs] at hrc
  have hD : ∀ σ : List (Nat × Nat), sg 7 σ 9 = some 9 → sg 7 σ 10 = some 10 → F2 (fun (d d2 : FuncId × List Value) => d.1 = d2.1 ∧ F2 (RV (sg 7 σ)) d.2 d2.2) D20 D20 := fun σ h3 h4 => .cons ⟨rfl, .cons (.ptr h3) (.cons (.ptr h4) .nil)⟩ .nil
  refine pieceSX pCall_sound (callO_sound (mr12 _ _ _ _ _)) 3 hra rfl ⟨⟨Mf.lvc h.f rfl rfl rfl m.rest_len, h.few, hx.symm⟩, trivial⟩ rfl 12 [(7, 7), (8, 8), (9, 9), (10, 10), (11, 11)] (k2 := k20 z) (os2 := bL o0 o1 o2 o3 o4 m.all (bytes s) ++ w20 m.all (bytes s) (bytes x)) (D2 := D20) rfl
    (.cons ⟨rfl, .closed rfl⟩ (.cons ⟨rfl, .ptr rfl⟩ (.cons ⟨rfl, .ptr rfl⟩ (.cons ⟨rfl, .ptr rfl⟩ (.cons ⟨rfl, .ptr rfl⟩ (.cons ⟨rfl, .ptr rfl⟩ .nil))))))
    (obL (is := [7,8,9,10,11]) h (.cons ⟨rfl, .cells (h.rv rfl rfl rfl rfl rfl)⟩ (.cons ⟨rfl, .cells (RV.all bytes_c2)⟩ (.cons ⟨rfl, ro_z33⟩ (.cons ⟨rfl, ro_one rfl⟩ (.cons ⟨rfl, .cells (RV.all bytes_c2)⟩ .nil)))))) (hD _ rfl rfl) ?_
  refine pieceDX hm (fz47 _ _) pCall_sound hrb ⟨rfl, rfl, trivial, rfl, rfl, trivial, rfl, trivial, rfl, ⟨hs, rfl, hz, hxl.symm, take32 hxl, by rw [bytes_len, hxl]; exact Nat.le_refl _⟩, rfl, trivial, rfl, trivial, rfl, trivial, rfl, trivial⟩ 13 [(9, 9), (10, 10)]
    (k2 := [(3, jk), (4, jk), (6, pt 9), (7, pt 10), (8, jk), (9, jk)]) (os2 := bL o0 o1 o2 o3 o4 m.all (bytes s) ++ [(9, z33o), (10, .cells [i64 1] 43)]) (D2 := D20) rfl
    (.cons ⟨rfl, .junk⟩ (.cons ⟨rfl, .junk⟩ (.cons ⟨rfl, .ptr rfl⟩ (.cons ⟨rfl, .ptr rfl⟩ (.cons ⟨rfl, .junk⟩ (.cons ⟨rfl, .junk⟩ .nil))))))
    (obL (is := [9,10]) h (.cons ⟨rfl, ro_z33⟩ (.cons ⟨rfl, ro_one rfl⟩ .nil))) (hD _ rfl rfl) ?_
  refine pieceF hm pCall_sound noOO_sound hrc ⟨rfl, trivial⟩ ?_
  intro e T H he hr hn hg
  cases tag1 he
  exact ⟨.inr rfl, rfl, _, hr, rfl, keepL (by rw [hn]; show 7 ≤ 13; omega) (getL (is := []) (os := []) hg)⟩
end Go.Abs

namespace Go.Abs
open Go.Proofs
set_option maxRecDepth 1000000

-- the law's heap behind the first Sign
abbrev wA (c1 c2 c3 : AObj) (ps way : List (List Int)) (mA : List Value) : List (Nat × AObj) := [(7, c1), (8, c2), (9, c3), (10, grD ps), (11, grD way), (12, .cells mA 33)]
abbrev uA (c1 c2 c3 : AObj) (ps way : List (List Int)) (mA : List Value) : List AObj := [c1, c2, c3, grD ps, grD way, .cells mA 33]
abbrev lA (o0 o1 o2 o3 o4 : AObj) (mc s : List Value) (c1 c2 c3 : AObj) (ps way : List (List Int)) (mA : List Value) : List (Nat × AObj) := bL o0 o1 o2 o3 o4 mc s ++ wA c1 c2 c3 ps way mA
abbrev xA (o0 o1 o2 o3 o4 : AObj) (mc s : List Value) (c1 c2 c3 : AObj) (ps way : List (List Int)) (mA : List Value) : List AObj := vL o0 o1 o2 o3 o4 mc s ++ uA c1 c2 c3 ps way mA
theorem r21a (o0 o1 o2 o3 o4 c1 c2 c3 : AObj) (m : Mg) (s x : Nat → Int) (z : Int) (ls : List Ln) (ss : List Sr) (xs : List Ct) (ps way : List (List Int)) (mA : List Value) : (ex3 Tryz.prog pCall (callO Tryz.prog (oneC 13 (mrG m.toMf ls ss xs (dgf x)))) 60 (pre 2 (codeOf Tryz.f21 [])) ⟨⟨[.agg m.all.toArray, dig (dgf s), i64 z] ++ List.replicate 34 undef, mkH 13 (lA o0 o1 o2 o3 o4 m.all (bytes (dgf s)) c1 c2 c3 ps way mA) [], []⟩, True⟩).map (obs3 [2,3,4,6,7,8,9] [0,1,2,3,4,5,6,7,8,9,10,11,12,13,14,15,16])
  = some (⟨0, [i64 z, pt 13, pt 14, pt 15, i64 0, pt 16, i64 0], 37, 17, xA o0 o1 o2 o3 o4 m.all (bytes (dgf s)) c1 c2 c3 ps way mA ++ [.cells m.all 33, .cells (bytes (dgf s)) 26, z33o, .cells (bytes (dgf x)) 26], []⟩,
    MrC m.toMf ls ss xs (dgf x) ⟨16, [(15, z33o), (14, .cells (bytes (dgf s)) 26), (13, .cells m.all 33)] ++ lA o0 o1 o2 o3 o4 m.all (bytes (dgf s)) c1 c2 c3 ps way mA⟩ (.agg m.all.toArray) ∧ True) := by kernel_rfl
abbrev f21 : List Bool := [false, false, false, false, false, false, false, true]
noncomputable def F21 (s : List Int) (i : Nat) (x : List Int) (ps way : List (List Int)) : FrO := orF (fcO Tryz.prog 36 fbG) (fcO Tryz.prog 51 (fsG s i x ps way))
theorem F21_sound (s : List Int) (i : Nat) (x : List Int) (ps way : List (List Int)) : SoundF Tryz.prog (F21 s i x ps way) := orF_sound fb36 (fs51 _ _ _ _ _)
abbrev k21 (z : Int) : List (Nat × Value) := [(2, i64 z), (3, pt 13), (4, pt 14), (6, pt 15), (7, i64 0), (8, pt 16), (9, i64 0)]
abbrev w21 (mc s x : List Value) : List (Nat × AObj) := [(13, .cells mc 33), (14, .cells s 26), (15, z33o), (16, .cells x 26)]
theorem r21b (o0 o1 o2 o3 o4 c1 c2 c3 : AObj) (m : Mg) (s x : Nat → Int) (i : Nat) (z : Int) (ps way : List (List Int)) (mA : List Value) : (dxC Tryz.prog (F21 (dgf s) i (dgf x) ps way) pCall 9 [[], [], [], [gr (bytes (dgf x))], [grD ps, grD way], [], [], [], [z31]] f21 (codeOf Tryz.f21 [1,1,1]) ⟨⟨mkT 37 (k21 z) jX, mkH 17 (lA o0 o1 o2 o3 o4 m.all (bytes (dgf s)) c1 c2 c3 ps way mA ++ w21 m.all (bytes (dgf s)) (bytes (dgf x))) [], []⟩, True⟩).map (obs3 [3,6,7,8,9,10] [0,1,2,3,4,5,6,7,8,9,10,11,12,13,15,16,18,19,20])
  = some (⟨0, [pt 13, pt 15, i64 0, pt 16, i64 0, pt 20], 37, 21, xA o0 o1 o2 o3 o4 m.all (bytes (dgf s)) c1 c2 c3 ps way mA ++ [.cells m.all 33, z33o, .cells (bytes (dgf x)) 26, grD ps, grD way, sigO z 18 way.length], []⟩,
    EfN [] (EfN [] (FrN True [z31] (PuN (RdN (RdN (FrN (SgC (dgf s) i (dgf x) ps way (dig (dgf s)) z 32 0 (bytes (dgf x))) [grD ps, grD way] (FrN (BytC (bytes (dgf x))) [gr (bytes (dgf x))] (RdN (RdN (RdN True))))))))))) := by kernel_rfl
theorem r21c (o0 o1 o2 o3 o4 c1 c2 c3 : AObj) (m : Mg) (s x : Nat → Int) (z : Int) (ps way ps2 way2 : List (List Int)) (mA : List Value) : (ex3 Tryz.prog pCall noOO 60 (codeOf Tryz.f21 [1,1,1,1]) ⟨⟨mkT 37 [(3, pt 13), (6, pt 15), (7, i64 0), (8, pt 16), (9, i64 0), (10, pt 20)] jX, mkH 21 (lA o0 o1 o2 o3 o4 m.all (bytes (dgf s)) c1 c2 c3 ps way mA ++ [(13, .cells m.all 33), (15, z33o), (16, .cells (bytes (dgf x)) 26), (18, grD ps2), (19, grD way2), (20, sigO z 18 way2.length)]) [], []⟩, True⟩).map (fin3 Tryz.prog Tryz.f21 [0,1,2,3,4,5,6,7,8,9,10,11,12,18,19])
  = some (⟨1, some (.tuple #[.agg (m.mc (bytes (dgf x) ++ [i64 z, sl 18 35, i64 z, i64 4, sl 19 way2.length])).toArray, i64 0]), 21, xA o0 o1 o2 o3 o4 m.all (bytes (dgf s)) c1 c2 c3 ps way mA ++ [grD ps2, grD way2], []⟩, True) := by kernel_rfl
theorem obA {m : Mg} {o0 o1 o2 o3 o4 c1 c2 c3 : AObj} {ls : List Ln} {ss : List Sr} {xs : List Ct} (h : MgI m o0 o1 o2 o3 o4 ls ss xs) {s : List Int} {ps way : List (List Int)} {mA : List Value} {σ : List (Nat × Nat)} (r1 : RO (sg 13 σ) c1 c1) (r2 : RO (sg 13 σ) c2 c2) (r3 : RO (sg 13 σ) c3 c3) (rA : F2 (RV (sg 13 σ)) mA mA) {is : List Nat} {os : List AObj} {l : List (Nat × AObj)} (ho : F2 (fun (p q : Nat × AObj) => sg 13 σ q.1 = some p.1 ∧ RO (sg 13 σ) p.2 q.2) (is.zip os) l) :
    F2 (fun (p q : Nat × AObj) => sg 13 σ q.1 = some p.1 ∧ RO (sg 13 σ) p.2 q.2) (([0,1,2,3,4,5,6,7,8,9,10,11,12] ++ is).zip (xA o0 o1 o2 o3 o4 m.all (bytes s) c1 c2 c3 ps way mA ++ os)) (lA o0 o1 o2 o3 o4 m.all (bytes s) c1 c2 c3 ps way mA ++ l) :=
  .cons ⟨rfl, h.f.l.ro⟩ (.cons ⟨rfl, h.f.s.ro⟩ (.cons ⟨rfl, h.f.x.ro⟩ (.cons ⟨rfl, h.o3 _⟩ (.cons ⟨rfl, h.o4 _⟩ (.cons ⟨rfl, .cells (h.rv rfl rfl rfl rfl rfl)⟩ (.cons ⟨rfl, .cells (RV.all bytes_c2)⟩ (.cons ⟨rfl, r1⟩ (.cons ⟨rfl, r2⟩ (.cons ⟨rfl, r3⟩ (.cons ⟨rfl, RO.grD⟩ (.cons ⟨rfl, RO.grD⟩ (.cons ⟨rfl, .cells rA⟩ ho))))))))))))
theorem clO_ro {σ : Nat → Option Nat} {n : Nat} {cs : List Value} {e : TypeId} (h : ∀ v ∈ cs, c2 v = true) : RO σ (clO n cs e) (clO n cs e) := by
  cases n with
  | zero => exact .dead _
  | succ n => exact .grow (RV.all h)
theorem mR_rv {σ : Nat → Option Nat} {m : Mf} {b p k : Nat} {x : List Int} {z : Int} (h0 : σ b = some b) (h1 : σ (b + 1) = some (b + 1)) (h2 : σ (b + 2) = some (b + 2)) (h3 : σ p = some p) (h4 : σ (p + 1) = some (p + 1)) : F2 (RV σ) (mR m b (bytes x) z p k) (mR m b (bytes x) z p k) :=
  .cons (.closed rfl) (.cons (.closed rfl) (.cons (clA_RV fun _ => h0) (.cons (clA_RV fun _ => h1) (.cons (clA_RV fun _ => h2) (F2.append2 (RV.all bytes_c2) (.cons (.closed rfl) (.cons (.slice h3) (.cons (.closed rfl) (.cons (.closed rfl) (.cons (.slice h4) .nil))))))))))
theorem SL.live {j n c k : Nat} {a : Option Addr} {o : AObj} {cs : List Value} (h : SL j a n c o k cs) {σ : Nat → Option Nat} (hj : o ≠ .dead → σ j = some j) : RV σ (.slice a n c) (.slice a n c) := by
  rcases h with ⟨rfl | rfl, rfl, rfl, _, _⟩ | ⟨rfl, rfl, rfl, _, _⟩
  · exact .closed rfl
  · exact .anonE
  · exact .slice (hj (by simp))
theorem bytC_ok {x : List Int} (h : x.length = 32) : BytC (bytes x) := ⟨by rw [bytes_len, h], fun v hv => by
  obtain ⟨b, _, rfl⟩ := List.mem_map.1 hv
  rfl⟩
theorem keepN {N : Nat} {l : List (Nat × AObj)} {H : Heap} (hn : N ≤ H.next) (hg : ∀ id, id < N → H.get id = (mkH N l []).get id) : Keep (mkH N l []) H := ⟨hn, fun id hid => hg id hid⟩
abbrev mB (m : Mf) (x : List Int) (z : Int) (p k : Nat) : List Value := m.mc (bytes x ++ [i64 z, sl p 35, i64 z, i64 4, sl (p + 1) k])
theorem does21 {m : Mg} {o0 o1 o2 o3 o4 c1 c2 c3 : AObj} {ls : List Ln} {ss : List Sr} {xs : List Ct} (h : MgI m o0 o1 o2 o3 o4 ls ss xs) {s : List Int} (hs : s.length = 32) {i : Nat} (hi : i < 4) {mA : List Value}
    (r1 : ∀ σ : Nat → Option Nat, RO σ c1 c1) (r2 : ∀ σ : Nat → Option Nat, RO σ c2 c2) (r3 : ∀ σ : Nat → Option Nat, RO σ c3 c3) (rA : ∀ σ : List (Nat × Nat), F2 (RV (sg 13 σ)) mA mA) {ps way : List (List Int)} (hps : ps = partS s i (rtM m.toMf ls ss xs)) (hway : way = wayS i (leavesS s)) :
    Does Tryz.prog 21 [.agg m.all.toArray, dig s, i64 (i : Int)] (mkH 13 (lA o0 o1 o2 o3 o4 m.all (bytes s) c1 c2 c3 ps way mA) []) (.tuple #[.agg (mB m.toMf (rtM m.toMf ls ss xs) (i : Int) 13 way.length).toArray, i64 0])
      (pushAll (mkH 13 (lA o0 o1 o2 o3 o4 m.all (bytes s) c1 c2 c3 ps way mA) []) [grD ps, grD way]) := by
  refine newsO_of_awp Tryz.func21 (c := codeOf Tryz.f21 []) rfl (H := mkH 13 (lA o0 o1 o2 o3 o4 m.all (bytes s) c1 c2 c3 ps way mA) []) (fun ob hob => by
    simp only [List.mem_cons, List.not_mem_nil, or_false] at hob
    rcases hob with rfl | rfl <;> exact .gr) (awp_of_awn (n := 13) ?_ (Nat.le_refl _))
  have hfs : dgf (fn s) = s := dgf_of hs
  have hxl : (rtM m.toMf ls ss xs).length = 32 := rootS_len _
  have hfx : dgf (fn (rtM m.toMf ls ss xs)) = rtM m.toMf ls ss xs := dgf_of hxl
  generalize hx : rtM m.toMf ls ss xs = x at *
  have hra := r21a o0 o1 o2 o3 o4 c1 c2 c3 m (fn s) (fn x) (i : Int) ls ss xs ps way mA
  have hrb := r21b o0 o1 o2 o3 o4 c1 c2 c3 m (fn s) (fn x) i (i : Int) ps way mA
  have hrc := r21c o0 o1 o2 o3 o4 c1 c2 c3 m (fn s) (fn x) (i : Int) ps way ps way mA
  rw [hfs, hfx] at hra hrb hrc
  refine pieceSX pCall_sound (callO_sound (mr13 _ _ _ _ _)) 2 hra rfl ⟨⟨Mf.lvc h.f rfl rfl rfl m.rest_len, h.few, hx.symm⟩, trivial⟩ rfl 17 [(13, 13), (14, 14), (15, 15), (16, 16)] (k2 := k21 (i : Int)) (os2 := lA o0 o1 o2 o3 o4 m.all (bytes s) c1 c2 c3 ps way mA ++ w21 m.all (bytes s) (bytes x)) (D2 := []) rfl
    (.cons ⟨rfl, .closed rfl⟩ (.cons ⟨rfl, .ptr rfl⟩ (.cons ⟨rfl, .ptr rfl⟩ (.cons ⟨rfl, .ptr rfl⟩ (.cons ⟨rfl, .closed rfl⟩ (.cons ⟨rfl, .ptr rfl⟩ (.cons ⟨rfl, .closed rfl⟩ .nil)))))))
    (obA (is := [13,14,15,16]) h (r1 _) (r2 _) (r3 _) (rA _) (.cons ⟨rfl, .cells (h.rv rfl rfl rfl rfl rfl)⟩ (.cons ⟨rfl, .cells (RV.all bytes_c2)⟩ (.cons ⟨rfl, ro_z33⟩ (.cons ⟨rfl, .cells (RV.all bytes_c2)⟩ .nil))))) .nil ?_
  refine pieceDX hm (F21_sound _ _ _ _ _) pCall_sound hrb ⟨rfl, rfl, trivial, rfl, rfl, trivial, rfl, trivial, rfl, ⟨hs, rfl, rfl, hi, by rw [hxl]; omega, hxl.symm, take32 hxl, by rw [bytes_len, hxl]; exact Nat.le_refl _, hps, hway⟩, rfl, bytC_ok hxl, rfl, trivial, rfl, trivial, rfl, trivial, rfl, trivial⟩ 21 [(13, 13), (15, 15), (16, 16), (18, 18), (19, 19), (20, 20)]
    (k2 := [(3, pt 13), (6, pt 15), (7, i64 0), (8, pt 16), (9, i64 0), (10, pt 20)]) (os2 := lA o0 o1 o2 o3 o4 m.all (bytes s) c1 c2 c3 ps way mA ++ [(13, .cells m.all 33), (15, z33o), (16, .cells (bytes x) 26), (18, grD ps), (19, grD way), (20, sigO (i : Int) 18 way.length)]) (D2 := []) rfl
    (.cons ⟨rfl, .ptr rfl⟩ (.cons ⟨rfl, .ptr rfl⟩ (.cons ⟨rfl, .closed rfl⟩ (.cons ⟨rfl, .ptr rfl⟩ (.cons ⟨rfl, .closed rfl⟩ (.cons ⟨rfl, .ptr rfl⟩ .nil))))))
    (obA (is := [13,15,16,18,19,20]) h (r1 _) (r2 _) (r3 _) (rA _) (.cons ⟨rfl, .cells (h.rv rfl rfl rfl rfl rfl)⟩ (.cons ⟨rfl, ro_z33⟩ (.cons ⟨rfl, .cells (RV.all bytes_c2)⟩ (.cons ⟨rfl, RO.grD⟩ (.cons ⟨rfl, RO.grD⟩ (.cons ⟨rfl, .cells (.cons (.closed rfl) (.cons (.slice rfl) (.cons (.closed rfl) (.cons (.closed rfl) (.cons (.slice rfl) .nil)))))⟩ .nil))))))) .nil ?_
  refine pieceF hm pCall_sound noOO_sound hrc trivial ?_
  intro e T H he hr hn hg
  cases tag1 he
  have g : ∀ (j : Nat) (o : Nat × AObj), (([0,1,2,3,4,5,6,7,8,9,10,11,12,18,19] : List Nat).zip (xA o0 o1 o2 o3 o4 m.all (bytes s) c1 c2 c3 ps way mA ++ [grD ps, grD way]))[j]? = some o → H.get o.1 = o.2 := fun j o ho => hg o (List.mem_of_getElem? ho)
  have g18 := g 13 _ rfl
  have g19 := g 14 _ rfl
  refine ⟨.inr rfl, rfl, _, hr, ⟨[18, 19], by simp, fun id hid => ?_, ?_, fun σ hσ ho => ?_⟩, keepN (by rw [hn]; show 13 ≤ 21; omega) fun id hid => ?_⟩
  · simp only [List.mem_cons, List.not_mem_nil, or_false] at hid
    show 13 ≤ id
    omega
  · show [H.get 18, H.get 19] = _
    rw [g18, g19]
  · refine .tuples (l := [.agg (mB m.toMf x (i : Int) 18 way.length).toArray, i64 0]) (m := [.agg (mB m.toMf x (i : Int) 13 way.length).toArray, i64 0]) (.cons (.aggs ?_) (.cons (.closed rfl) .nil))
    exact .cons (.closed rfl) (.cons (.closed rfl) (.cons (h.f.l.live fun hd => ho 0 (by show 0 < 13; omega) hd) (.cons (h.f.s.live fun hd => ho 1 (by show 1 < 13; omega) hd) (.cons (h.f.x.live fun hd => ho 2 (by show 2 < 13; omega) hd) (F2.append2 (RV.all bytes_c2) (.cons (.closed rfl) (.cons (.slice (hσ 0 18 rfl)) (.cons (.closed rfl) (.cons (.closed rfl) (.cons (.slice (hσ 1 19 rfl)) .nil))))))))))
  · have : id = 0 ∨ id = 1 ∨ id = 2 ∨ id = 3 ∨ id = 4 ∨ id = 5 ∨ id = 6 ∨ id = 7 ∨ id = 8 ∨ id = 9 ∨ id = 10 ∨ id = 11 ∨ id = 12 := by omega
    rcases this with rfl | rfl | rfl | rfl | rfl | rfl | rfl | rfl | rfl | rfl | rfl | rfl | rfl
    · exact g 0 _ rfl
    · exact g 1 _ rfl
    · exact g 2 _ rfl
    · exact g 3 _ rfl
    · exact g 4 _ rfl
    · exact g 5 _ rfl
    · exact g 6 _ rfl
    · exact g 7 _ rfl
    · exact g 8 _ rfl
    · exact g 9 _ rfl
    · exact g 10 _ rfl
    · exact g 11 _ rfl
    · exact g 12 _ rfl
end Go.Abs

namespace Go.Abs
open Go.Proofs
set_option maxRecDepth 1000000

abbrev lZ (o0 o1 o2 o3 o4 : AObj) (mc s : List Value) : List (Nat × AObj) := bL o0 o1 o2 o3 o4 mc s ++ [(7, z33o)]
theorem r21x (o0 o1 o2 o3 o4 : AObj) (m : Mg) (s x : Nat → Int) (z : Int) (ls : List Ln) (ss : List Sr) (xs : List Ct) : (ex3 Tryz.prog pCall (callO Tryz.prog (oneC 13 (mrG m.toMf ls ss xs (dgf x)))) 60 (pre 2 (codeOf Tryz.f21 [])) ⟨⟨[.agg m.all.toArray, dig (dgf s), i64 z] ++ List.replicate 34 undef, mkH 8 (lZ o0 o1 o2 o3 o4 m.all (bytes (dgf s))) [], []⟩, True⟩).map (obs3 [2,3,4,6,7,8,9] [0,1,2,3,4,5,6,7,8,9,10,11])
  = some (⟨0, [i64 z, pt 8, pt 9, pt 10, i64 0, pt 11, i64 0], 37, 12, vL o0 o1 o2 o3 o4 m.all (bytes (dgf s)) ++ [z33o, .cells m.all 33, .cells (bytes (dgf s)) 26, z33o, .cells (bytes (dgf x)) 26], []⟩,
    MrC m.toMf ls ss xs (dgf x) ⟨11, [(10, z33o), (9, .cells (bytes (dgf s)) 26), (8, .cells m.all 33)] ++ lZ o0 o1 o2 o3 o4 m.all (bytes (dgf s))⟩ (.agg m.all.toArray) ∧ True) := by kernel_rfl
noncomputable def F21z (s x : List Int) : FrO := orF (fcO Tryz.prog 36 fbG) (fcO Tryz.prog 51 (fzG s x))
theorem F21z_sound (s x : List Int) : SoundF Tryz.prog (F21z s x) := orF_sound fb36 (fz51 _ _)
abbrev k21z (z : Int) : List (Nat × Value) := [(2, i64 z), (3, pt 8), (4, pt 9), (6, pt 10), (7, i64 0), (8, pt 11), (9, i64 0)]
theorem r21y (o0 o1 o2 o3 o4 : AObj) (m : Mg) (s x : Nat → Int) (z : Int) : (dxC Tryz.prog (F21z (dgf s) (dgf x)) pCall 9 [[], [], [], [gr (bytes (dgf x))], [], [], [], [], [z31]] f21 (codeOf Tryz.f21 [1,1,1]) ⟨⟨mkT 37 (k21z z) jX, mkH 12 (lZ o0 o1 o2 o3 o4 m.all (bytes (dgf s)) ++ [(8, .cells m.all 33), (9, .cells (bytes (dgf s)) 26), (10, z33o), (11, .cells (bytes (dgf x)) 26)]) [], []⟩, True⟩).map (obs3 [6,7,9] [0,1,2,3,4,5,6,7,10])
  = some (⟨0, [pt 10, i64 0, i64 1], 37, 14, vL o0 o1 o2 o3 o4 m.all (bytes (dgf s)) ++ [z33o, z33o], []⟩,
    EfN [] (EfN [] (FrN True [z31] (PuN (RdN (RdN (FrN (SzC (dgf s) (dgf x) (dig (dgf s)) z 32 0 (bytes (dgf x))) [] (FrN (BytC (bytes (dgf x))) [gr (bytes (dgf x))] (RdN (RdN (RdN True))))))))))) := by kernel_rfl
theorem r21z (o0 o1 o2 o3 o4 : AObj) (m : Mg) (s : Nat → Int) : (ex3 Tryz.prog pCall noOO 60 (codeOf Tryz.f21 [1,1,1,1]) ⟨⟨mkT 37 [(6, pt 10), (7, i64 0), (9, i64 1)] jX, mkH 14 (lZ o0 o1 o2 o3 o4 m.all (bytes (dgf s)) ++ [(10, z33o)]) [], []⟩, True⟩).map (fin3 Tryz.prog Tryz.f21 [0,1,2,3,4,5,6,7])
  = some (⟨1, some zMan, 14, vL o0 o1 o2 o3 o4 m.all (bytes (dgf s)) ++ [z33o], []⟩, True) := by kernel_rfl
theorem obZ {m : Mg} {o0 o1 o2 o3 o4 : AObj} {ls : List Ln} {ss : List Sr} {xs : List Ct} (h : MgI m o0 o1 o2 o3 o4 ls ss xs) {s : List Int} {σ : List (Nat × Nat)} {is : List Nat} {os : List AObj} {l : List (Nat × AObj)} (ho : F2 (fun (p q : Nat × AObj) => sg 8 σ q.1 = some p.1 ∧ RO (sg 8 σ) p.2 q.2) (is.zip os) l) :
    F2 (fun (p q : Nat × AObj) => sg 8 σ q.1 = some p.1 ∧ RO (sg 8 σ) p.2 q.2) (([0,1,2,3,4,5,6,7] ++ is).zip (vL o0 o1 o2 o3 o4 m.all (bytes s) ++ [z33o] ++ os)) (lZ o0 o1 o2 o3 o4 m.all (bytes s) ++ l) :=
  .cons ⟨rfl, h.f.l.ro⟩ (.cons ⟨rfl, h.f.s.ro⟩ (.cons ⟨rfl, h.f.x.ro⟩ (.cons ⟨rfl, h.o3 _⟩ (.cons ⟨rfl, h.o4 _⟩ (.cons ⟨rfl, .cells (h.rv rfl rfl rfl rfl rfl)⟩ (.cons ⟨rfl, .cells (RV.all bytes_c2)⟩ (.cons ⟨rfl, ro_z33⟩ ho)))))))
theorem does21z {m : Mg} {o0 o1 o2 o3 o4 : AObj} {ls : List Ln} {ss : List Sr} {xs : List Ct} (h : MgI m o0 o1 o2 o3 o4 ls ss xs) {s : List Int} (hs : s.length = 32) {z : Int} (hz : z < 0 ∨ 4 ≤ z) :
    Does Tryz.prog 21 [.agg m.all.toArray, dig s, i64 z] (mkH 8 (lZ o0 o1 o2 o3 o4 m.all (bytes s)) []) zMan (mkH 8 (lZ o0 o1 o2 o3 o4 m.all (bytes s)) []) := by
  refine val_of_awp Tryz.func21 (c := codeOf Tryz.f21 []) rfl zMan_c2 (awp_of_awn (n := 8) ?_ (Nat.le_refl _))
  have hfs : dgf (fn s) = s := dgf_of hs
  have hxl : (rtM m.toMf ls ss xs).length = 32 := rootS_len _
  have hfx : dgf (fn (rtM m.toMf ls ss xs)) = rtM m.toMf ls ss xs := dgf_of hxl
  generalize hx : rtM m.toMf ls ss xs = x at *
  have hra := r21x o0 o1 o2 o3 o4 m (fn s) (fn x) z ls ss xs
  have hrb := r21y o0 o1 o2 o3 o4 m (fn s) (fn x) z
  have hrc := r21z o0 o1 o2 o3 o4 m (fn s)
  rw [hfs, hfx] at hra hrb
  rw [hfs] at hrc
  refine pieceSX pCall_sound (callO_sound (mr13 _ _ _ _ _)) 2 hra rfl ⟨⟨Mf.lvc h.f rfl rfl rfl m.rest_len, h.few, hx.symm⟩, trivial⟩ rfl 12 [(8, 8), (9, 9), (10, 10), (11, 11)] (k2 := k21z z) (os2 := lZ o0 o1 o2 o3 o4 m.all (bytes s) ++ [(8, .cells m.all 33), (9, .cells (bytes s) 26), (10, z33o), (11, .cells (bytes x) 26)]) (D2 := []) rfl
    (.cons ⟨rfl, .closed rfl⟩ (.cons ⟨rfl, .ptr rfl⟩ (.cons ⟨rfl, .ptr rfl⟩ (.cons ⟨rfl, .ptr rfl⟩ (.cons ⟨rfl, .closed rfl⟩ (.cons ⟨rfl, .ptr rfl⟩ (.cons ⟨rfl, .closed rfl⟩ .nil)))))))
    (obZ (is := [8,9,10,11]) h (.cons ⟨rfl, .cells (h.rv rfl rfl rfl rfl rfl)⟩ (.cons ⟨rfl, .cells (RV.all bytes_c2)⟩ (.cons ⟨rfl, ro_z33⟩ (.cons ⟨rfl, .cells (RV.all bytes_c2)⟩ .nil))))) .nil ?_
  refine pieceDX hm (F21z_sound _ _) pCall_sound hrb ⟨rfl, rfl, trivial, rfl, rfl, trivial, rfl, trivial, rfl, ⟨hs, rfl, hz, hxl.symm, take32 hxl, by rw [bytes_len, hxl]; exact Nat.le_refl _⟩, rfl, bytC_ok hxl, rfl, trivial, rfl, trivial, rfl, trivial, rfl, trivial⟩ 14 [(10, 10)]
    (k2 := [(6, pt 10), (7, i64 0), (9, i64 1)]) (os2 := lZ o0 o1 o2 o3 o4 m.all (bytes s) ++ [(10, z33o)]) (D2 := []) rfl
    (.cons ⟨rfl, .ptr rfl⟩ (.cons ⟨rfl, .closed rfl⟩ (.cons ⟨rfl, .closed rfl⟩ .nil)))
    (obZ (is := [10]) h (.cons ⟨rfl, ro_z33⟩ .nil)) .nil ?_
  refine pieceF hm pCall_sound noOO_sound hrc trivial ?_
  intro e T H he hr hn hg
  cases tag1 he
  have g : ∀ (j : Nat) (o : Nat × AObj), (([0,1,2,3,4,5,6,7] : List Nat).zip (vL o0 o1 o2 o3 o4 m.all (bytes s) ++ [z33o]))[j]? = some o → H.get o.1 = o.2 := fun j o ho => hg o (List.mem_of_getElem? ho)
  refine ⟨.inr rfl, rfl, _, hr, rfl, keepN (by rw [hn]; show 8 ≤ 14; omega) fun id hid => ?_⟩
  have : id = 0 ∨ id = 1 ∨ id = 2 ∨ id = 3 ∨ id = 4 ∨ id = 5 ∨ id = 6 ∨ id = 7 := by omega
  rcases this with rfl | rfl | rfl | rfl | rfl | rfl | rfl | rfl
  · exact g 0 _ rfl
  · exact g 1 _ rfl
  · exact g 2 _ rfl
  · exact g 3 _ rfl
  · exact g 4 _ rfl
  · exact g 5 _ rfl
  · exact g 6 _ rfl
  · exact g 7 _ rfl
end Go.Abs

