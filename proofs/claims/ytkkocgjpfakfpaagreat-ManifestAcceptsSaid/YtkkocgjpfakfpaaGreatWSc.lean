/- For every manifest, seed and index the statements ManifestSigns and ManifestAccepts of law 40 hold, with no condition. -/
import Derived.Test.YtkkocgjpfakfpaaGreatWSb
import Derived.Test.YtkkocgjpfakfpaaGreatWBb
set_option linter.unusedSimpArgs false
set_option linter.unusedVariables false
namespace Go.Abs
open Go.Proofs
open Go.RowKit (Below)
set_option maxRecDepth 1000000

theorem frame_newC {P : Program} {f : FuncId} {args args0 : List Value} {H H0 H' : Heap} {id n k : Nat} {cs : List Value} {e : TypeId} (h : Does P f args0 H0 (.slice (some ⟨id, 0, none⟩) n k) H') (hg : H'.get id = .cells cs e) (hc : ∀ v ∈ cs, c2 v = true) (hi : Imp P args H args0 H0) :
    Does P f args H (.slice (some ⟨H.next, 0, none⟩) n k) (H.push (.cells cs e)) := by
  intro B E w args' hH hA
  obtain ⟨E0, h0, ha0⟩ := hi B E w args' hH hA
  refine (h w.heap.size E0 w args' h0 ha0).mono ?_
  rintro en w' ⟨E', v', h1, h2, h3, h4, h5⟩
  cases h3 with
  | slice _ _ _ _ l hl hn =>
    have ho := h2.obj id
    rw [hg] at ho
    obtain ⟨l', c', k1, k2, k3, k4, k5⟩ := ho
    rw [hl] at k1; cases k1
    have hkept := hH.kept h4
    have hle := Env.le_add (l := l) hH.newId
    refine ⟨E.add H.next l, _, hle, ⟨hkept.base, fun i l2 hi2 => ?_, fun i => ?_, fun i j li lj hi2 hj mi mj hbb => ?_⟩, .slice H.next 0 n k l (by simp [Env.add]) hn, h4.mono hH.base, h5⟩
    · unfold Env.add at hi2
      split at hi2
      · rename_i e; subst e; exact Nat.lt_succ_self _
      · exact Nat.lt_succ_of_lt (hH.dom _ _ hi2)
    · rw [Heap.get_push]
      split
      · rename_i e1
        subst e1
        exact ⟨l, c', by simp [Env.add], k2, Nat.le_trans hH.base k3, k4, k5.closed hc⟩
      · exact (hkept.obj i).congr hle (fun _ _ => rfl)
    · have key : ∀ j lj, (E.add H.next l) j = some lj → ((H.push (.cells cs e)).get j).mut = true → j ≠ H.next → E j = some lj ∧ (H.get j).mut = true ∧ lj.blk < w.heap.size := by
        intro j lj hj mj hnj
        rw [Heap.get_push, if_neg (fun e => hnj e.symm)] at mj
        simp only [Env.add, if_neg hnj] at hj
        obtain ⟨l2, q1, _, q3⟩ := (hH.obj j).lt mj
        rw [hj] at q1; cases q1
        exact ⟨hj, mj, q3⟩
      by_cases e1 : i = H.next <;> by_cases e2 : j = H.next
      · rw [e1, e2]
      · exfalso
        obtain ⟨_, _, q⟩ := key j lj hj mj e2
        subst e1
        simp only [Env.add, if_true, Option.some.injEq] at hi2
        subst hi2
        omega
      · exfalso
        obtain ⟨_, _, q⟩ := key i li hi2 mi e1
        subst e2
        simp only [Env.add, if_true, Option.some.injEq] at hj
        subst hj
        omega
      · obtain ⟨q1, q2, _⟩ := key i li hi2 mi e1
        obtain ⟨r1, r2, _⟩ := key j lj hj mj e2
        exact hH.inj i j li lj q1 r1 q2 r2 hbb

/-- A function's body: a new slice of closed values. -/
theorem newC_of_awp {P : Program} {f : FuncId} {fn : Func} {c : Code} (hf : P.funcs[f]? = some fn) (hb : fn.body = some c) {args : List Value} {H : Heap} {n k : Nat} {cs : List Value} {e : TypeId} (hc : ∀ v ∈ cs, c2 v = true)
    (h : Awp P c (fun ex T' H' D' => (ex = .normal ∨ ex = .ret) ∧ (D'.all fun d => quietDefer P d.1 && callable P d.1) = true ∧ ∃ u, resA P fn T' H' = some u ∧ (∃ id, u = .slice (some ⟨id, 0, none⟩) n k ∧ H.next ≤ id ∧ H'.get id = .cells cs e) ∧ Keep H H') (args ++ List.replicate (fn.ntmps - args.length) undef) H []) :
    Does P f args H (.slice (some ⟨H.next, 0, none⟩) n k) (H.push (.cells cs e)) := by
  intro B E w args' hH hA
  refine (awp_weak hf hb h B E w args' hH hA).mono ?_
  rintro en w' ⟨E', u, v', H', ⟨⟨id, rfl, hid, hg⟩, hk⟩, h1, h2, h3, h4, h5⟩
  cases h3 with
  | slice _ _ _ _ l hl hn =>
    have := hH.backNew h1 h2 hk hid hl (.inr hg) hc
    rw [hg] at this
    exact ⟨E.add H.next l, _, Env.le_add hH.newId, this, .slice H.next 0 n k l (by simp [Env.add]) hn, h4, h5⟩

theorem byteOf_range (x : Int) (i : Nat) : ∃ n : Nat, n < 256 ∧ byteOf x i = (n : Int) := by
  unfold byteOf
  refine ⟨(IntKind.u8.wrap (x.fdiv (2 ^ (8 * i)))).toNat, ?_, ?_⟩ <;>
  · simp only [IntKind.wrap, IntKind.bits, IntKind.signed, Bool.false_and, Bool.false_eq_true, if_false]
    omega
theorem sqz_range (s : S5) : ∀ b ∈ sqz s, ∃ n : Nat, n < 256 ∧ b = (n : Int) := by
  intro b hb
  simp only [sqz, wordBytes, List.mem_append, List.mem_cons, List.not_mem_nil, or_false] at hb
  rcases hb with (rfl | rfl | rfl | rfl | rfl | rfl | rfl | rfl) | (rfl | rfl | rfl | rfl | rfl | rfl | rfl | rfl) | (rfl | rfl | rfl | rfl | rfl | rfl | rfl | rfl) | (rfl | rfl | rfl | rfl | rfl | rfl | rfl | rfl) <;> exact byteOf_range _ _
/-- The digits of a message. -/
def yS (bs : List Int) : Nat → Nat := fun i => ((sumS 390 bs).getD i 0).toNat
def digS (bs : List Int) : List Nat := digN (yS bs)
theorem yS_ok (bs : List Int) : (∀ i, i < 16 → fn (sumS 390 bs) i = (yS bs i : Int)) ∧ ∀ i, i < 16 → yS bs i < 256 := by
  have key : ∀ i, i < 16 → ∃ n : Nat, n < 256 ∧ (sumS 390 bs).getD i 0 = (n : Int) := fun i hi => by
    have hl : i < (sumS 390 bs).length := by rw [sumS_len]; omega
    rw [List.getD_eq_getElem?_getD, List.getElem?_eq_getElem hl]
    exact sqz_range _ _ (List.getElem_mem hl)
  refine ⟨fun i hi => ?_, fun i hi => ?_⟩
  · obtain ⟨n, h1, h2⟩ := key i hi
    unfold yS fn
    rw [h2]; simp
  · obtain ⟨n, h1, h2⟩ := key i hi
    unfold yS
    rw [h2]; simpa using h1
theorem digS_len (bs : List Int) : (digS bs).length = 35 := digN_len _
theorem digS_le (bs : List Int) : ∀ d ∈ digS bs, d ≤ 15 := digN_le (yS_ok bs).2
/-- The digits' cells. -/
def digV (bs : List Int) : List Value := (digS bs).map fun (d : Nat) => i64 (d : Int)
theorem digV_c2 {bs : List Int} : ∀ v ∈ digV bs, c2 v = true := by
  intro v hv
  obtain ⟨d, _, rfl⟩ := List.mem_map.1 hv
  rfl
theorem digV_E (bs : List Int) : (digE (fn (sumS 390 bs))).map (.int .i64) = digV bs := by
  rw [digE_eq (yS_ok bs).1 (yS_ok bs).2, digV, List.map_map]; rfl
theorem digV_R (bs : List Int) : (digR (fn (sumS 390 bs))).map (.int .i64) = digV bs := by
  rw [digR_eq (yS_ok bs).1 (yS_ok bs).2, digV, List.map_map]; rfl
theorem does87 (bs : List Int) (hb : bs.length ≤ 1000000) : Does Tryz.prog 87 [sl 0 bs.length] ⟨1, [(0, .ro (bytes bs))]⟩ (.slice (some ⟨1, 0, none⟩) 35 35) ((⟨1, [(0, .ro (bytes bs))]⟩ : Heap).push (.cells (digV bs) 3)) := by
  refine newC_of_awp (H := ⟨1, [(0, .ro (bytes bs))]⟩) Tryz.func87 (c := codeOf Tryz.f87 []) rfl digV_c2 (awp_of_awn (n := 1) ?_ (Nat.le_refl _))
  have hs := sumC_bytes (f := fn (sumS 390 bs)) (d := 390) (bs := bs) (dgf_of (sumS_len _ _)) hb
  have hra := r87a (bytes bs) bs.length (fn (sumS 390 bs))
  have hrb := r87b (bytes bs) (fn (sumS 390 bs))
  rw [digV_E] at hrb
  rw [show dgf (fn (sumS 390 bs)) = sumS 390 bs from dgf_of (sumS_len _ _)] at hra hrb
  refine pieceS hm pCall_sound (callO_sound (sumF31 _)) 3 hra rfl ⟨hs, trivial⟩ rfl 4 [(1, 1), (2, 2), (3, 3)] (os2 := [(0, .ro (bytes bs)), (1, .cells [nilS] 59), (2, .cells (bytes (sumS 390 bs)) 26), (3, .cells [i64 0] 3)]) (D2 := [(137, [pt 1])]) rfl
    (.cons ⟨rfl, .ro (RV.all bytes_c2)⟩ (.cons ⟨rfl, .cells (.cons (.closed rfl) .nil)⟩ (.cons ⟨rfl, .cells (RV.all bytes_c2)⟩ (.cons ⟨rfl, .cells (.cons (.closed rfl) .nil)⟩ .nil)))) (.cons ⟨rfl, .cons (.ptr rfl) .nil⟩ .nil) ?_
  refine pieceF hm pCall_sound oo87_sound hrb ⟨trN_ok 35, trivial⟩ ?_
  intro e T H he hr hn hg
  cases tag1 he
  exact ⟨.inr rfl, rfl, _, hr, ⟨4, rfl, by show 1 ≤ 4; omega, hg (4, _) (.tail _ (.head _))⟩, keep1 (by rw [hn]; show 1 ≤ 5; omega) (hg (0, _) (.head _))⟩
theorem does92 (bs : List Int) (hb : bs.length ≤ 1000000) : Does Tryz.prog 92 [sl 0 bs.length] ⟨1, [(0, .ro (bytes bs))]⟩ (.slice (some ⟨1, 0, none⟩) 35 capG) ((⟨1, [(0, .ro (bytes bs))]⟩ : Heap).push (.grow (digV bs) 3)) := by
  refine new_of_awp (H := ⟨1, [(0, .ro (bytes bs))]⟩) Tryz.func92 (c := codeOf Tryz.f92 []) rfl digV_c2 (awp_of_awn (n := 1) ?_ (Nat.le_refl _))
  have hs := sumC_bytes (f := fn (sumS 390 bs)) (d := 390) (bs := bs) (dgf_of (sumS_len _ _)) hb
  have hr := r92 (bytes bs) bs.length (fn (sumS 390 bs))
  rw [digV_R] at hr
  refine pieceF hm pCall_sound (callO_sound (sumF33 _)) hr ⟨hs, trivial⟩ ?_
  intro e T H he hr hn hg
  cases tag1 he
  exact ⟨.inr rfl, rfl, _, hr, ⟨35, rfl, by show 1 ≤ 35; omega, hg (35, _) (.tail _ (.head _))⟩, keep1 (by rw [hn]; show 1 ≤ 36; omega) (hg (0, _) (.head _))⟩
/-- Digits by contract. -/
def DgC (bs : List Int) (ds : List Value) (n off : Nat) (cs : List Value) : Prop := bs.length ≤ 1000000 ∧ n = bs.length ∧ (cs.drop off).take n = bytes bs ∧ off + n ≤ cs.length ∧ ds = digV bs
def dg87 (bs : List Int) (ds : List Value) : List Value → Heap → Option CallR := fun args H => match args with
  | [.slice (some ⟨id, off, none⟩) n _] => (match H.row id with
    | some cs => some (.eff (.slice (some ⟨H.next, 0, none⟩) 35 35) (H.push (.cells ds 3)) (DgC bs ds n off cs))
    | none => none)
  | _ => none
def dg92 (bs : List Int) (ds : List Value) : List Value → Heap → Option CallR := fun args H => match args with
  | [.slice (some ⟨id, off, none⟩) n _] => (match H.row id with
    | some cs => some (.eff (sl H.next 35) (H.push (.grow ds 3)) (DgC bs ds n off cs))
    | none => none)
  | _ => none
theorem dg87_sound (bs : List Int) (ds : List Value) : SoundC Tryz.prog (oneC 87 (dg87 bs ds)) := oneC_sound fun args H r h => by
  unfold dg87 at h
  split at h
  case h_2 => cases h
  rename_i id off n c
  split at h
  case h_2 => cases h
  rename_i cs hr
  cases h
  rintro ⟨h1, rfl, h3, h4, rfl⟩
  exact frame_newC (does87 bs h1) rfl digV_c2 (imp_slice (P := Tryz.prog) (H := H) (id := id) (off := off) (c := c) (n := bs.length) (m := bs.length) (pre := []) (post := []) rfl rfl hr h3 h4 bytes_c2)
theorem dg92_sound (bs : List Int) (ds : List Value) : SoundC Tryz.prog (oneC 92 (dg92 bs ds)) := oneC_sound fun args H r h => by
  unfold dg92 at h
  split at h
  case h_2 => cases h
  rename_i id off n c
  split at h
  case h_2 => cases h
  rename_i cs hr
  cases h
  rintro ⟨h1, rfl, h3, h4, rfl⟩
  exact frame_new (does92 bs h1) rfl digV_c2 (imp_slice (P := Tryz.prog) (H := H) (id := id) (off := off) (c := c) (n := bs.length) (m := bs.length) (pre := []) (post := []) rfl rfl hr h3 h4 bytes_c2)
end Go.Abs

namespace Go.Abs
open Go.Proofs
open Go.RowKit (Below)
set_option maxRecDepth 1000000

/-- A row under a new name. -/
theorem HRel.addNew {P : Program} {B : Nat} {E : Env} {H : Heap} {w : World} {o : AObj} {l : Loc} (h : HRel P B E H w) (ho : OR P B (E.add H.next l) w H.next o) (hf : ∀ j lj, E j = some lj → (H.get j).mut = true → lj.blk ≠ l.blk) : HRel P B (E.add H.next l) (H.push o) w := by
  have hle := Env.le_add (l := l) h.newId
  refine ⟨h.base, fun i l2 hi2 => ?_, fun i => ?_, fun i j li lj hi2 hj mi mj hbb => ?_⟩
  · unfold Env.add at hi2
    split at hi2
    · rename_i e; subst e; exact Nat.lt_succ_self _
    · exact Nat.lt_succ_of_lt (h.dom _ _ hi2)
  · rw [Heap.get_push]
    split
    · rename_i e1; subst e1; exact ho
    · exact (h.obj i).congr hle (fun _ _ => rfl)
  · have key : ∀ j lj, (E.add H.next l) j = some lj → ((H.push o).get j).mut = true → j ≠ H.next → E j = some lj ∧ (H.get j).mut = true := by
      intro j lj hj mj hnj
      rw [Heap.get_push, if_neg (fun e => hnj e.symm)] at mj
      simp only [Env.add, if_neg hnj] at hj
      exact ⟨hj, mj⟩
    by_cases e1 : i = H.next <;> by_cases e2 : j = H.next
    · rw [e1, e2]
    · exfalso
      obtain ⟨q1, q2⟩ := key j lj hj mj e2
      subst e1
      simp only [Env.add, if_true, Option.some.injEq] at hi2
      subst hi2
      exact hf j lj q1 q2 hbb.symm
    · exfalso
      obtain ⟨q1, q2⟩ := key i li hi2 mi e1
      subst e2
      simp only [Env.add, if_true, Option.some.injEq] at hj
      subst hj
      exact hf i li q1 q2 hbb
    · obtain ⟨q1, q2⟩ := key i li hi2 mi e1
      obtain ⟨r1, r2⟩ := key j lj hj mj e2
      exact h.inj i j li lj q1 r1 q2 r2 hbb
/-- A contract of a small heap, with several new rows within its result, holds in each heap: the new rows one by one. -/
theorem addNews {P : Program} {B B0 : Nat} {E' : Env} {H' : Heap} {w' : World} (h2 : HRel P B0 E' H' w') (hB : B ≤ B0) : ∀ (ids : List Nat) (E : Env) (H : Heap), HRel P B E H w' → (∀ id ∈ ids, Shut (H'.get id)) → ids.Nodup →
    (∀ j lj, E j = some lj → (H.get j).mut = true → lj.blk < B0 ∨ ∃ id, id ∉ ids ∧ E' id = some lj ∧ (H'.get id).mut = true) →
    ∃ E2, E.le E2 ∧ HRel P B E2 (pushAll H (ids.map H'.get)) w' ∧ ∀ k id, ids[k]? = some id → E2 (H.next + k) = E' id
  | [], E, H, h, _, _, _ => ⟨E, .refl E, h, fun k id hk => by simp at hk⟩
  | id :: ids, E, H, h, hs, hn, hf => by
    have hsh := hs id (List.mem_cons_self ..)
    have ho := h2.obj id
    obtain ⟨l, hl, hmut, hblk⟩ : ∃ l, E' id = some l ∧ (H'.get id).mut = true ∧ B0 ≤ l.blk := by
      obtain ⟨cs, e, hcs, hc⟩ := hsh
      rcases hcs with hcs | hcs
      · rw [hcs] at ho ⊢
        obtain ⟨l', c', k1, k2, k3, _⟩ := ho
        exact ⟨l', k1, rfl, k3⟩
      · rw [hcs] at ho ⊢
        obtain ⟨l', c', k1, k2, k3, _⟩ := ho
        exact ⟨l', k1, rfl, k3⟩
    have hfr : ∀ j lj, E j = some lj → (H.get j).mut = true → lj.blk ≠ l.blk := by
      intro j lj hj mj e
      rcases hf j lj hj mj with hlt | ⟨id2, hne, h3, h4⟩
      · omega
      · have := h2.inj id2 id lj l h3 hl h4 hmut e
        subst this
        exact hne (List.mem_cons_self ..)
    have hnew := h.addNew (o := H'.get id) (l := l) (hsh.or ho hl (by simp [Env.add]) hB) hfr
    have hnd := List.nodup_cons.1 hn
    obtain ⟨E2, g1, g2, g3⟩ := addNews h2 hB ids (E.add H.next l) (H.push (H'.get id)) hnew (fun x hx => hs x (List.mem_cons_of_mem _ hx)) hnd.2 (by
      intro j lj hj mj
      by_cases e : j = H.next
      · subst e
        simp only [Env.add, if_true, Option.some.injEq] at hj
        subst hj
        exact .inr ⟨id, hnd.1, hl, hmut⟩
      · rw [Heap.get_push, if_neg (fun x => e x.symm)] at mj
        simp only [Env.add, if_neg e] at hj
        rcases hf j lj hj mj with hlt | ⟨id2, hne, h3, h4⟩
        · exact .inl hlt
        · exact .inr ⟨id2, fun hx => hne (List.mem_cons_of_mem _ hx), h3, h4⟩)
    refine ⟨E2, (Env.le_add h.newId).trans g1, g2, fun k x hk => ?_⟩
    cases k with
    | zero =>
      simp only [List.getElem?_cons_zero, Option.some.injEq] at hk
      subst hk
      rw [hl]
      exact g1 _ _ (by simp [Env.add])
    | succ k =>
      have := g3 k x (by simpa using hk)
      rw [← this]
      congr 1
      show H.next + (k + 1) = H.next + 1 + k
      omega
end Go.Abs

namespace Go.Abs
open Go.Proofs
open Go.RowKit (Below)
set_option maxRecDepth 1000000

theorem rv_news {E' E2 : Env} {b : Nat} {ids : List Nat} (h3 : ∀ k id, ids[k]? = some id → E2 (b + k) = E' id) {u v v' : Value} (hv : VRel E' u v') (hr : ∀ σ : Nat → Option Nat, (∀ k id, ids[k]? = some id → σ (b + k) = some id) → RV σ u v) : VRel E2 v v' := by
  have h1 := hr (fun j => if b ≤ j then ids[j - b]? else none) (fun k id hk => by
    show (if b ≤ b + k then ids[b + k - b]? else none) = _
    rw [if_pos (by omega), Nat.add_sub_cancel_left]; exact hk) E' v' hv
  refine h1.mono fun j l hj => ?_
  simp only [ren] at hj
  by_cases hb : b ≤ j
  · rw [if_pos hb] at hj
    cases hi : ids[j - b]? with
    | none => rw [hi] at hj; cases hj
    | some id =>
      rw [hi] at hj
      have := h3 _ _ hi
      rw [show b + (j - b) = j by omega] at this
      rw [this]; exact hj
  · rw [if_neg hb] at hj; cases hj

/-- A function's body: several new rows of closed values. -/
theorem news_of_awp {P : Program} {f : FuncId} {fn : Func} {c : Code} (hf : P.funcs[f]? = some fn) (hb : fn.body = some c) {args : List Value} {H : Heap} {obs : List AObj} {v : Value} (hs : ∀ ob ∈ obs, Shut ob)
    (h : Awp P c (fun ex T' H' D' => (ex = .normal ∨ ex = .ret) ∧ (D'.all fun d => quietDefer P d.1 && callable P d.1) = true ∧ ∃ u, resA P fn T' H' = some u ∧ (∃ ids : List Nat, ids.Nodup ∧ (∀ id ∈ ids, H.next ≤ id) ∧ ids.map H'.get = obs ∧ ∀ σ : Nat → Option Nat, (∀ k id, ids[k]? = some id → σ (H.next + k) = some id) → RV σ u v) ∧ Keep H H') (args ++ List.replicate (fn.ntmps - args.length) undef) H []) :
    Does P f args H v (pushAll H obs) := by
  intro B E w args' hH hA
  refine (awp_weak (R := fun u H' => (∃ ids : List Nat, ids.Nodup ∧ (∀ id ∈ ids, H.next ≤ id) ∧ ids.map H'.get = obs ∧ ∀ σ : Nat → Option Nat, (∀ k id, ids[k]? = some id → σ (H.next + k) = some id) → RV σ u v) ∧ Keep H H') hf hb h B E w args' hH hA).mono ?_
  rintro en w' ⟨E', u, v', H', ⟨⟨ids, hn, hlo, hob, hr⟩, hk⟩, h1, h2, h3, h4, h5⟩
  have hback := hH.back h1 h2 hk
  obtain ⟨E2, g1, g2, g3⟩ := addNews h2 (Nat.le_refl B) ids E H hback (fun id hid => hs _ (by rw [← hob]; exact List.mem_map_of_mem hid)) hn (fun j lj hj mj => .inr ⟨j, fun hm => by
    have := hlo j hm
    have := hH.dom _ _ hj
    omega, h1 _ _ hj, by rw [hk.get j (hH.dom _ _ hj)]; exact mj⟩)
  rw [hob] at g2
  exact ⟨E2, v', g1, g2, rv_news g3 h3 hr, h4, h5⟩

/-- A contract of a small heap with several new rows holds in each heap. -/
theorem frame_news {P : Program} {f : FuncId} {args args0 : List Value} {H H0 : Heap} {obs : List AObj} {v0 v : Value} (h : Does P f args0 H0 v0 (pushAll H0 obs)) (hs : ∀ ob ∈ obs, Shut ob) (hi : Imp P args H args0 H0)
    (hr : ∀ σ : Nat → Option Nat, (∀ k, k < obs.length → σ (H.next + k) = some (H0.next + k)) → RV σ v0 v) : Does P f args H v (pushAll H obs) := by
  intro B E w args' hH hA
  obtain ⟨E0, h0, ha0⟩ := hi B E w args' hH hA
  refine (h w.heap.size E0 w args' h0 ha0).mono ?_
  rintro en w' ⟨E', v', h1, h2, h3, h4, h5⟩
  have hkept := hH.kept h4
  have hget : ∀ k, k < obs.length → (pushAll H0 obs).get (H0.next + k) = obs.getD k .dead := fun k hk => by
    rw [pushAll_get, if_pos ⟨by omega, by omega⟩, Nat.add_sub_cancel_left]
  have hmap : (List.range' H0.next obs.length).map (pushAll H0 obs).get = obs := by
    apply List.ext_getElem (by simp)
    intro k k1 k2
    rw [List.getElem_map, List.getElem_range', Nat.one_mul, hget k k2, List.getD_eq_getElem?_getD, List.getElem?_eq_getElem k2]
    rfl
  obtain ⟨E2, g1, g2, g3⟩ := addNews (B := B) h2 hH.base (List.range' H0.next obs.length) E H hkept (fun id hid => hs _ (by have hq := List.mem_map_of_mem (f := (pushAll H0 obs).get) hid; rw [hmap] at hq; exact hq)) List.nodup_range' (fun j lj hj mj => by
    obtain ⟨l2, q1, _, q3⟩ := (hH.obj j).lt mj
    rw [hj] at q1; cases q1
    exact .inl q3)
  rw [hmap] at g2
  refine ⟨E2, v', g1, g2, rv_news g3 h3 fun σ hσ => hr σ fun k hk => hσ k _ ?_, h4.mono hH.base, h5⟩
  rw [List.getElem?_range' hk, Nat.one_mul]

theorem Shut.gr {ds : List (List Int)} : Shut (grD ds) := ⟨_, _, .inl rfl, flatD_c2⟩
/-- Leaves of a key, at any time. -/
def fkG (s : List Int) (lv : List (List Int)) : List Value → Heap → Nat → Option (Value × List AObj × Prop) := fun args _ id => match args with
  | [v] => some (sl id 4, [grD lv], s.length = 32 ∧ v = dig s ∧ lv = leavesS s)
  | _ => none
theorem fk60 (s : List Int) (lv : List (List Int)) : SoundF Tryz.prog (fcO Tryz.prog 60 (fkG s lv)) := fcO_sound fun args H id v obs c h hc => by
  unfold fkG at h
  split at h
  case h_2 => cases h
  cases h
  refine ⟨fun ob hob => by rw [List.mem_singleton.1 hob]; exact .gr, fun H2 _ => ⟨_, (ks60 s lv).eff 60 _ (roH H2) _ _ _ rfl hc, fun σ hσ => .slice (by show σ id = some H2.next; simpa using hσ 0 (by simp))⟩⟩
/-- Proofs, at any time. -/
def fpG (ls : List (List Int)) (i : Nat) (way : List (List Int)) : List Value → Heap → Nat → Option (Value × List AObj × Prop) := fun args H id' => match args with
  | [.slice (some ⟨id, off, none⟩) n _, .int .i64 z] => (match H.row id with
    | some cs => some (ctP z (n : Int) (sl id' way.length), [grD way], SliC ls n off cs ∧ 2 ≤ n ∧ n ≤ 63 ∧ z = (i : Int) ∧ i < n ∧ way = wayS i ls)
    | none => none)
  | _ => none
theorem fp41 (ls : List (List Int)) (i : Nat) (way : List (List Int)) : SoundF Tryz.prog (fcO Tryz.prog 41 (fpG ls i way)) := fcO_sound fun args H id v obs c h hc => by
  unfold fpG at h
  split at h
  case h_2 => cases h
  rename_i id' off n cp z
  split at h
  case h_2 => cases h
  rename_i cs hr
  cases h
  refine ⟨fun ob hob => by rw [List.mem_singleton.1 hob]; exact .gr, fun H2 hs => ?_⟩
  have hrow : (roH H2).row id' = some cs := by rw [roH_row]; exact row_mono hs hr
  refine ⟨_, (pr41 ls i way).eff 41 _ (roH H2) (ctP z (n : Int) (sl (roH H2).next way.length)) ((roH H2).push (grD way)) _ (by
    show (bif Nat.beq 41 41 then prG ls i way _ (roH H2) else none) = _
    simp only [prG, hrow]
    rfl) hc, fun σ hσ => ?_⟩
  have h0 := hσ 0 (by simp)
  exact .tuples (l := [.agg #[i64 z, i64 (n : Int), sl H2.next way.length], i64 0]) (m := [.agg #[i64 z, i64 (n : Int), sl id way.length], i64 0]) (.cons (.aggs (l := [i64 z, i64 (n : Int), sl H2.next way.length]) (m := [i64 z, i64 (n : Int), sl id way.length]) (.cons (.closed rfl) (.cons (.closed rfl) (.cons (.slice (by simpa using h0)) .nil)))) (.cons (.closed rfl) .nil))
end Go.Abs

namespace Go.Abs
open Go.Proofs
set_option maxRecDepth 1000000

/-- The parts of a signature. -/
def partS (s : List Int) (i : Nat) (bs : List Int) : List (List Int) := (List.range 35).map fun j => lnkS ((digS bs).getD j 0) (begS s i j)
theorem partS_len (s : List Int) (i : Nat) (bs : List Int) : (partS s i bs).length = 35 := by simp [partS]
theorem partS_32 {s : List Int} {i : Nat} {bs : List Int} : ∀ d ∈ partS s i bs, d.length = 32 := by
  intro d hd
  obtain ⟨j, _, rfl⟩ := List.mem_map.1 hd
  exact lnkS_len _ (begS_len s i j)
theorem partS_at {s : List Int} {i c : Nat} {bs : List Int} (hc : c < 35) : (partS s i bs)[c]? = some (lnkS ((digS bs).getD c 0) (begS s i c)) := by simp [partS, hc]
theorem digS_at (bs : List Int) {c : Nat} (hc : c < 35) : (digV bs)[c]? = some (i64 (((digS bs).getD c 0 : Nat) : Int)) ∧ (digS bs).getD c 0 ≤ 15 := by
  have hl : c < (digS bs).length := by rw [digS_len]; exact hc
  refine ⟨?_, ?_⟩
  · rw [digV, List.getElem?_map, List.getElem?_eq_getElem hl, List.getD_eq_getElem?_getD, List.getElem?_eq_getElem hl]; rfl
  · rw [List.getD_eq_getElem?_getD, List.getElem?_eq_getElem hl]
    exact digS_le bs _ (List.getElem_mem hl)

abbrev RdN (L : Prop) : Prop := True ∧ ([] : List AObj) = [] ∧ L
abbrev PuN (L : Prop) : Prop := ([] : List AObj) = [] ∧ L
abbrev FrN (c : Prop) (o : List AObj) (L : Prop) : Prop := c ∧ o = o ∧ L
abbrev EfN (D : Defs) (L : Prop) : Prop := D = D ∧ L

abbrev z31 : AObj := .cells [i64 0, nilS, i64 0, i64 0, nilS] 31
abbrev o47 (cs s : List Value) (i : Int) : List (Nat × AObj) := [(0, .ro cs), (1, .cells s 26), (2, .cells [i64 i] 3), (3, z31), (4, .cells [i64 0] 43)]
noncomputable def o47a : OpO := orO (forceO Tryz.prog 13 (.bool false)) (forceO Tryz.prog 16 (.bool false))
abbrev D47 : Defs := [(86, [pt 3, pt 4])]
abbrev k47 (n : Nat) : List (Nat × Value) := [(2, sl 0 n), (3, pt 1), (4, pt 2), (6, pt 3), (7, pt 4)]
theorem r47a (cs : List Value) (s : Nat → Int) (n : Nat) (z : Int) : (ex3 Tryz.prog pCall o47a 60 (pre 2 (codeOf Tryz.f47 [])) ⟨⟨[dig (dgf s), i64 z, sl 0 n] ++ List.replicate 35 undef, ⟨1, [(0, .ro cs)]⟩, []⟩, True⟩).map (obs3 [2,3,4,6,7] [0,1,2,3,4])
  = some (⟨0, [sl 0 n, pt 1, pt 2, pt 3, pt 4], 38, 5, [.ro cs, .cells (bytes (dgf s)) 26, .cells [i64 z] 3, z31, .cells [i64 0] 43], D47⟩, some (Value.bool (decide (z ≥ 4))) = some (Value.bool false) ∧ some (Value.bool (decide (z < 0))) = some (Value.bool false) ∧ True) := by kernel_rfl
noncomputable def F47 (s : List Int) (lv : List (List Int)) (i : Nat) (way : List (List Int)) : FrO := orF (fcO Tryz.prog 60 (fkG s lv)) (fcO Tryz.prog 41 (fpG lv i way))
theorem F47_sound (s : List Int) (lv : List (List Int)) (i : Nat) (way : List (List Int)) : SoundF Tryz.prog (F47 s lv i way) := orF_sound (fk60 s lv) (fp41 lv i way)
abbrev f47 : List Bool := [false, false, false, false, false, false, true]
theorem r47b (cs : List Value) (s : Nat → Int) (i n : Nat) (lv way : List (List Int)) : (dxC Tryz.prog (F47 (dgf s) lv i way) pCall 8 [[], [grD lv], [], [grD way], [], [], [], [z29]] f47 (codeOf Tryz.f47 [1,1,1]) ⟨⟨mkT 38 (k47 n) jX, mkH 5 (o47 cs (bytes (dgf s)) (i : Int)) [], D47⟩, True⟩).map (obs3 [2,3,4,6,7,8] [0,1,2,3,4,6,7])
  = some (⟨0, [sl 0 n, pt 1, pt 2, pt 3, pt 4, pt 7], 38, 8, [.ro cs, .cells (bytes (dgf s)) 26, .cells [i64 (i : Int)] 3, z31, .cells [i64 0] 43, grD way, .cells [i64 (i : Int), i64 4, sl 6 way.length] 29], D47⟩,
    EfN D47 (EfN D47 (FrN True [z29] (PuN (RdN (RdN (FrN (SliC lv 4 0 (flatD lv) ∧ 2 ≤ 4 ∧ 4 ≤ 63 ∧ (i : Int) = (i : Int) ∧ i < 4 ∧ way = wayS i lv) [grD way] (RdN (FrN ((dgf s).length = 32 ∧ dig (dgf s) = dig (dgf s) ∧ lv = leavesS (dgf s)) [grD lv] (RdN True)))))))))) := by kernel_rfl
abbrev o47b (cs s : List Value) (i : Int) (ws : List (List Int)) : List (Nat × AObj) := [(0, .ro cs), (1, .cells s 26), (2, .cells [i64 i] 3), (3, z31), (4, .cells [i64 0] 43), (5, grD ws), (6, .cells [i64 i, i64 4, sl 5 ws.length] 29)]
abbrev dsl (b : Nat) : Value := .slice (some ⟨b, 0, none⟩) 35 35
theorem r47c (cs : List Value) (s : Nat → Int) (i n : Nat) (way : List (List Int)) (bs : List Int) (ds : List Value) : (ex3 Tryz.prog pCall (callO Tryz.prog (oneC 87 (dg87 bs ds))) 60 (pre 1 (codeOf Tryz.f47 [1,1,1,1])) ⟨⟨mkT 38 (k47 n ++ [(8, pt 6)]) jX, mkH 7 (o47b cs (bytes (dgf s)) (i : Int) way) [], D47⟩, True⟩).map (obs3 [3,4,6,7,8,9] [0,1,2,3,4,5,6,7,8])
  = some (⟨0, [pt 1, pt 2, pt 3, pt 4, pt 6, pt 8], 38, 9, [.ro cs, .cells (bytes (dgf s)) 26, .cells [i64 (i : Int)] 3, z31, .cells [i64 0] 43, grD way, .cells [i64 (i : Int), i64 4, sl 5 way.length] 29, .cells ds 3, .cells [dsl 7] 59], D47⟩, DgC bs ds n 0 cs ∧ True) := by kernel_rfl
abbrev o47c (cs s : List Value) (i : Int) (ws : List (List Int)) (ds : List Value) : List (Nat × AObj) := [(0, .ro cs), (1, .cells s 26), (2, .cells [i64 i] 3), (3, z31), (4, .cells [i64 0] 43), (5, grD ws), (6, .cells [i64 i, i64 4, sl 5 ws.length] 29), (7, .cells ds 3), (8, .cells [dsl 7] 59)]
abbrev v47c (cs s : List Value) (i : Int) (ws : List (List Int)) (ds : List Value) : List AObj := [.ro cs, .cells s 26, .cells [i64 i] 3, z31, .cells [i64 0] 43, grD ws, .cells [i64 i, i64 4, sl 5 ws.length] 29, .cells ds 3, .cells [dsl 7] 59]
abbrev cS : Value := clv 89 #[pt 1, pt 2, pt 8]
theorem r88S (cs s ds zs : List Value) (i : Nat) (way : List (List Int)) : (ex3 Tryz.prog pCall (mkG Tryz.prog 8 zs) 60 (pre 1 (codeOf Tryz.f88 [])) ⟨⟨[i64 35, cS] ++ List.replicate 19 undef, mkH 9 (o47c cs s (i : Int) way ds) [], []⟩, True⟩).map (obs3 [0,1,5] [0,1,2,3,4,5,6,7,8,9])
  = some (⟨0, [i64 35, cS, sl 9 35], 21, 10, v47c cs s (i : Int) way ds ++ [.grow zs 26], []⟩, MkC 32 32 zD.toArray 35 35 zs ∧ True) := by kernel_rfl
noncomputable def ooS (s x y : Nat → Int) (i c d : Nat) : OpO := orO (callO Tryz.prog (inC Tryz.prog pCall (orO (callO Tryz.prog (oneC 91 (bgG (dgf s) i c (dgf x)))) (orO (callO Tryz.prog (oneC 90 (lkG (dgf x) d (dgf y)))) (orO (idxO Tryz.prog 12) (ldO Tryz.prog 13 (i64 (d : Int)))))) 60 [89])) (orO (idxO Tryz.prog 18) (stO Tryz.prog 18))
theorem ooS_sound (s x y : Nat → Int) (i c d : Nat) : SoundO Tryz.prog (ooS s x y i c d) := orO_sound (callO_sound (inC_sound hm pCall_sound (orO_sound (callO_sound (bg91 _ _ _ _)) (orO_sound (callO_sound (lk90 _ _ _)) (orO_sound idxO_sound ldO_sound))))) (orO_sound idxO_sound stO_sound)
theorem r88T (cs ds zs : List Value) (s x y : Nat → Int) (i c d : Nat) (way : List (List Int)) (b : Value) : (ex3 Tryz.prog pCall (ooS s x y i c d) 60 (codeOf Tryz.f88 [1,1,0,1,0,0,1,1]) ⟨⟨T88b 35 cS 9 c b, mkH 10 (o47c cs (bytes (dgf s)) (i : Int) way ds ++ [(9, .grow zs 26)]) [], []⟩, True⟩).map (obs3 [1,5,9,10] [0,1,2,3,4,5,6,7,8,9])
  = some (⟨0, [cS, sl 9 35, i64 35, cw c], 21, 11, v47c cs (bytes (dgf s)) (i : Int) way ds ++ [.grow (splice zs (0 + c * 32) (bytes (dgf y))) 26], []⟩,
    StC (bytes (dgf y)) 32 (0 + c * 32) zs ∧ ((0 : Int) ≤ (c : Int) ∧ (c : Int) < 35) ∧ (LkC (dgf x) d (dgf y) (dig (dgf x)) (d : Int) ∧ LdC Tryz.prog 3 (some ds) (0 + c * 1) (i64 (d : Int)) ∧ ((0 : Int) ≤ (c : Int) ∧ (c : Int) < 35) ∧ BgC (dgf s) i c (dgf x) (dig (dgf s)) (i : Int) (c : Int) ∧ True) ∧ True) := by kernel_rfl
theorem obsQ47 {cs ds : List Value} {s : List Int} {i : Nat} {way : List (List Int)} {n : Nat} {σ : List (Nat × Nat)} (hc : ∀ v ∈ cs, c2 v = true) (hd : ∀ v ∈ ds, c2 v = true) (h : ∀ j, j < 9 → sg n σ j = some j) {is : List Nat} {os : List AObj} {l : List (Nat × AObj)} (ho : F2 (fun (p q : Nat × AObj) => sg n σ q.1 = some p.1 ∧ RO (sg n σ) p.2 q.2) (is.zip os) l) :
    F2 (fun (p q : Nat × AObj) => sg n σ q.1 = some p.1 ∧ RO (sg n σ) p.2 q.2) (([0,1,2,3,4,5,6,7,8] ++ is).zip (v47c cs (bytes s) (i : Int) way ds ++ os)) (o47c cs (bytes s) (i : Int) way ds ++ l) :=
  .cons ⟨h 0 (by omega), .ro (RV.all hc)⟩ (.cons ⟨h 1 (by omega), .cells (RV.all bytes_c2)⟩ (.cons ⟨h 2 (by omega), .cells (.cons (.closed rfl) .nil)⟩ (.cons ⟨h 3 (by omega), .cells (.cons (.closed rfl) (.cons (.closed rfl) (.cons (.closed rfl) (.cons (.closed rfl) (.cons (.closed rfl) .nil)))))⟩ (.cons ⟨h 4 (by omega), .cells (.cons (.closed rfl) .nil)⟩
    (.cons ⟨h 5 (by omega), RO.grD⟩ (.cons ⟨h 6 (by omega), .cells (.cons (.closed rfl) (.cons (.closed rfl) (.cons (.slice (h 5 (by omega))) .nil)))⟩ (.cons ⟨h 7 (by omega), .cells (RV.all hd)⟩ (.cons ⟨h 8 (by omega), .cells (.cons (.slice (h 7 (by omega))) .nil)⟩ ho))))))))
theorem does88S {cs : List Value} (hcs : ∀ v ∈ cs, c2 v = true) {s : List Int} (hs : s.length = 32) {i : Nat} (hi : i ≤ 63) {way : List (List Int)} {bs : List Int} :
    Does Tryz.prog 88 [i64 35, cS] (mkH 9 (o47c cs (bytes s) (i : Int) way (digV bs)) []) (sl 9 35) ((mkH 9 (o47c cs (bytes s) (i : Int) way (digV bs)) []).push (grD (partS s i bs))) := by
  have h9 : ∀ j, j < 9 → sg 9 [(9, 9)] j = some j := fun j hj => by
    have : Nat.blt j 9 = true := by simpa [Nat.blt_eq] using hj
    simp [sg, this]
  have hro : ∀ (zs : List (List Int)), F2 (fun (p q : Nat × AObj) => sg 9 [(9, 9)] q.1 = some p.1 ∧ RO (sg 9 [(9, 9)]) p.2 q.2) (([0,1,2,3,4,5,6,7,8,9] : List Nat).zip (v47c cs (bytes s) (i : Int) way (digV bs) ++ [.grow (flatD zs) 26])) (o47c cs (bytes s) (i : Int) way (digV bs) ++ [(9, grD zs)]) := fun zs =>
    obsQ47 (is := [9]) hcs digV_c2 h9 (.cons ⟨rfl, RO.grD⟩ .nil)
  have hcl : RV (sg 9 [(9, 9)]) cS cS := .clos (l := [pt 1, pt 2, pt 8]) (m := [pt 1, pt 2, pt 8]) (.cons (.ptr rfl) (.cons (.ptr rfl) (.cons (.ptr rfl) .nil)))
  refine list88 (b := 9) (n := 35) (B := o47c cs (bytes s) (i : Int) way (digV bs)) (partS_len s i bs) rfl ?_ ?_ ?_ (fun o => rfl)
  · intro Q hQ
    have hz := zeros_flat 35
    refine pieceSX pCall_sound mkG_sound 1 (r88S cs (bytes s) (digV bs) (flatD (List.replicate 35 zl)) i way) rfl ⟨⟨by omega, by omega, by omega, by omega, by omega, rfl, by omega, by rw [hz]; rfl⟩, trivial⟩ rfl 10 [(9, 9)] (k2 := [(0, i64 35), (1, cS), (5, sl 9 35)]) rfl (.cons ⟨rfl, .closed rfl⟩ (.cons ⟨rfl, hcl⟩ (.cons ⟨rfl, .slice rfl⟩ .nil))) (hro (List.replicate 35 zl)) .nil ?_
    rw [curD_0, partS_len] at hQ
    exact hQ
  · intro c hc x Q hQ
    have hx := begS_len s i c
    obtain ⟨hd1, hd2⟩ := digS_at bs hc
    have hat := partS_at (s := s) (i := i) (bs := bs) hc
    generalize (digS bs).getD c 0 = d at *
    have hy := lnkS_len d hx
    have hr := r88T cs (digV bs) (flatD (curD (partS s i bs) c)) (fn s) (fn (begS s i c)) (fn (lnkS d (begS s i c))) i c d way x
    rw [show dgf (fn s) = s from dgf_of hs, show dgf (fn (begS s i c)) = begS s i c from dgf_of hx, show dgf (fn (lnkS d (begS s i c))) = lnkS d (begS s i c) from dgf_of hy, cw, wrap_i1 (by omega), Nat.zero_add, Nat.zero_add, curD_step partS_32 hat] at hr
    refine pieceEX pCall_sound (ooS_sound _ _ _ _ _ _) hr ⟨⟨by rw [bytes_len, hy], by rw [flatD_len (curD_32 partS_32 c), curD_len _ (by rw [partS_len]; omega), partS_len]; omega, bytes_one'⟩, ⟨by omega, by omega⟩, ⟨⟨hx, rfl, rfl, by omega, rfl⟩, ldC_one (by rw [Nat.mul_one]; exact hd1), ⟨by omega, by omega⟩, ⟨hs, rfl, rfl, rfl, hi, by omega, rfl⟩, trivial⟩, trivial⟩ rfl 10 [(9, 9)] (k2 := [(1, cS), (5, sl 9 35), (9, i64 35), (10, i64 ((c + 1 : Nat) : Int))]) rfl (.cons ⟨rfl, hcl⟩ (.cons ⟨rfl, .slice rfl⟩ (.cons ⟨rfl, .closed rfl⟩ (.cons ⟨rfl, .closed rfl⟩ .nil)))) (hro _) .nil ?_
    exact hQ
  · intro o
    refine ⟨by show 9 ≤ 10; omega, fun id hid => ?_⟩
    have : id = 0 ∨ id = 1 ∨ id = 2 ∨ id = 3 ∨ id = 4 ∨ id = 5 ∨ id = 6 ∨ id = 7 ∨ id = 8 := by have : id < 9 := hid; omega
    rcases this with rfl | rfl | rfl | rfl | rfl | rfl | rfl | rfl | rfl <;> rfl
end Go.Abs

