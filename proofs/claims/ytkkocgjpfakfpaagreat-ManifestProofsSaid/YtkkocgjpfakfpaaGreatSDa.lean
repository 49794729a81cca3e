/- A part of the proof that the law ManifestProofs returns true at every input and leaves its arguments as they were; no condition. -/
import Derived.Test.YtkkocgjpfakfpaaGreatSCg
import Derived.ReadAgain
import Derived.ChangeSame
import Derived.Test.YtkkocgjpfakfpaaGreatRows
import Derived.DataReads
import Derived.WalkKit
import Derived.ProofKit
import Derived.OpenShut
import Derived.ShutString
import Derived.ChangeOld
import Derived.Carry
set_option linter.unusedSimpArgs false
set_option linter.unusedVariables false
namespace Go.Abs
open Go.Proofs
open Go.RowKit (Below)

section
variable {H : Type} {enc : TypeId × Value → H} {P : Program} {w : World} {base : Nat} {sp : Nat → Bool} {held : Bool}

theorem mapM_some {α β : Type} {f : α → Option β} : ∀ {l : List α} {ys : List β}, l.mapM f = some ys → ∀ x ∈ l, ∃ y, f x = some y
  | [], ys, _, x, hx => by cases hx
  | a :: l, ys, h, x, hx => by
    rw [List.mapM_cons] at h
    simp only [bind, Option.bind_eq_some_iff] at h
    obtain ⟨y, hy, ys', hys, _⟩ := h
    rcases List.mem_cons.1 hx with rfl | hx
    · exact ⟨y, hy⟩
    · exact mapM_some hys x hx

theorem inv_int {t : TypeId} {k : IntKind} {fuel : Nat} {cs : List Value} {x : DataW H × List MemPlace} (hu : P.underlying t = some (.int k)) (h : DataW.trod enc P w base sp held fuel t cs = some x) : ∃ n, cs = [.int k n] := by
  cases fuel with
  | zero => simp [DataW.trod] at h
  | succ fuel =>
    unfold DataW.trod at h
    rw [hu] at h
    split at h <;> simp_all
theorem inv_struct {t : TypeId} {fs : Array Field} {fuel : Nat} {cs : List Value} {x : DataW H × List MemPlace} (hu : P.underlying t = some (.struct fs)) (h : DataW.trod enc P w base sp held fuel t cs = some x) :
    cs.length = P.cellsOf t ∧ ∃ fuel', ∀ f ∈ fs.toList, ∃ y, DataW.trod enc P w base sp held fuel' f.type ((cs.drop f.offset).take (P.cellsOf f.type)) = some y := by
  cases fuel with
  | zero => simp [DataW.trod] at h
  | succ fuel =>
    unfold DataW.trod at h
    rw [hu] at h
    simp only at h
    split at h
    · rename_i hl
      simp only [Option.map_eq_some_iff] at h
      obtain ⟨ys, hy, _⟩ := h
      exact ⟨hl, fuel, mapM_some hy⟩
    · cases h
theorem inv_array {t e : TypeId} {n fuel : Nat} {cs : List Value} {x : DataW H × List MemPlace} (hu : P.underlying t = some (.array n e)) (h : DataW.trod enc P w base sp held fuel t cs = some x) :
    cs.length = P.cellsOf t ∧ ∃ fuel', ∀ i, i < n → ∃ y, DataW.trod enc P w base sp held fuel' e ((cs.drop (i * P.cellsOf e)).take (P.cellsOf e)) = some y := by
  cases fuel with
  | zero => simp [DataW.trod] at h
  | succ fuel =>
    unfold DataW.trod at h
    rw [hu] at h
    simp only at h
    split at h
    · rename_i hl
      simp only [Option.map_eq_some_iff] at h
      obtain ⟨ys, hy, _⟩ := h
      exact ⟨hl, fuel, fun i hi => mapM_some hy i (List.mem_range.2 hi)⟩
    · cases h
theorem inv_slice {t e : TypeId} {fuel : Nat} {cs : List Value} {x : DataW H × List MemPlace} (hu : P.underlying t = some (.slice e)) (h : DataW.trod enc P w base sp held fuel t cs = some x) :
    cs = [.slice none 0 0] ∨ ∃ a len cap fuel', cs = [.slice (some a) len cap] ∧ len ≤ cap ∧ ∀ i, i < len → ∃ ecs y, w.cells? base (a.add (i * P.cellsOf e)) (P.cellsOf e) = some ecs ∧ DataW.trod enc P w base sp held fuel' e ecs = some y := by
  cases fuel with
  | zero => simp [DataW.trod] at h
  | succ fuel =>
    unfold DataW.trod at h
    rw [hu] at h
    split at h
    all_goals first | (simp_all; done) | skip
    · rename_i e' a len cap heq
      cases heq
      refine .inr ?_
      split at h
      · rename_i hc
        simp only [Option.bind_eq_some_iff] at h
        obtain ⟨ys, hy, _⟩ := h
        refine ⟨a, len, cap, fuel, rfl, hc.2.1, fun i hi => ?_⟩
        obtain ⟨y, hy⟩ := mapM_some hy i (List.mem_range.2 hi)
        simp only [Option.bind_eq_some_iff] at hy
        obtain ⟨ecs, h1, h2⟩ := hy
        exact ⟨ecs, y, h1, h2⟩
      · cases h
end
end Go.Abs

namespace Go.Abs
open Go.Proofs
set_option maxRecDepth 100000

section
variable {H : Type} {enc : TypeId × Value → H} {w : World} {base : Nat} {sp : Nat → Bool} {held : Bool}

/-- These cells can be read as that type. -/
def Rdb (enc : TypeId × Value → H) (w : World) (base : Nat) (sp : Nat → Bool) (held : Bool) (t : TypeId) (cs : List Value) : Prop := ∃ fuel y, DataW.trod enc Tryz.prog w base sp held fuel t cs = some y

def intOf : Value → Int
  | .int _ n => n
  | _ => 0

theorem rd_int {t : TypeId} {k : IntKind} {cs : List Value} (hu : Tryz.prog.underlying t = some (.int k)) (h : Rdb enc w base sp held t cs) : ∃ n, cs = [.int k n] := by
  obtain ⟨fuel, y, h⟩ := h
  exact inv_int hu h
theorem rd_field {t : TypeId} {fs : Array Field} {cs : List Value} (hu : Tryz.prog.underlying t = some (.struct fs)) (h : Rdb enc w base sp held t cs) :
    cs.length = Tryz.prog.cellsOf t ∧ ∀ f ∈ fs.toList, Rdb enc w base sp held f.type ((cs.drop f.offset).take (Tryz.prog.cellsOf f.type)) := by
  obtain ⟨fuel, y, h⟩ := h
  obtain ⟨h1, fuel', h2⟩ := inv_struct hu h
  exact ⟨h1, fun f hf => ⟨fuel', h2 f hf⟩⟩
theorem one_at {cs : List Value} {i : Nat} {v : Value} (h : (cs.drop i).take 1 = [v]) : cs[i]? = some v := by
  have h1 : ((cs.drop i).take 1)[0]? = some v := by rw [h]; rfl
  simpa [List.getElem?_take, List.getElem?_drop] using h1
theorem cut (cs : List Value) (k n : Nat) : cs.drop k = (cs.drop k).take n ++ cs.drop (k + n) := by
  rw [← List.drop_drop, List.take_append_drop]

theorem cz26 : Tryz.prog.cellsOf 26 = 32 := by kernel_rfl
theorem cz5 : Tryz.prog.cellsOf 5 = 1 := by kernel_rfl
theorem cz3 : Tryz.prog.cellsOf 3 = 1 := by kernel_rfl
theorem cz33 : Tryz.prog.cellsOf 33 = 42 := by kernel_rfl
theorem cz37 : Tryz.prog.cellsOf 37 = 38 := by kernel_rfl
theorem cz104 : Tryz.prog.cellsOf 104 = 2 := by kernel_rfl
theorem cz106 : Tryz.prog.cellsOf 106 = 66 := by kernel_rfl
theorem cz98 : Tryz.prog.cellsOf 98 = 2 := by kernel_rfl
theorem cz35 : Tryz.prog.cellsOf 35 = 3 := by kernel_rfl
theorem cz31 : Tryz.prog.cellsOf 31 = 5 := by kernel_rfl
theorem cz29 : Tryz.prog.cellsOf 29 = 3 := by kernel_rfl
theorem cz27 : Tryz.prog.cellsOf 27 = 1 := by kernel_rfl
theorem cz22 : Tryz.prog.cellsOf 22 = 1 := by kernel_rfl
theorem cz23 : Tryz.prog.cellsOf 23 = 1 := by kernel_rfl
theorem cz24 : Tryz.prog.cellsOf 24 = 1 := by kernel_rfl

theorem rd_digest {cs : List Value} (h : Rdb enc w base sp held 26 cs) : ∃ d, cs = bytes (dgf d) := by
  obtain ⟨fuel, y, h⟩ := h
  obtain ⟨h1, fuel', h2⟩ := inv_array Tryz.underlying26 h
  rw [cz26] at h1
  rw [cz5] at h2
  refine ⟨fun i => intOf (cs.getD i undef), List.ext_getElem? fun i => ?_⟩
  by_cases hi : i < 32
  · obtain ⟨z, hz⟩ := h2 i hi
    obtain ⟨n, hn⟩ := inv_int Tryz.underlying5 hz
    have := one_at (by simpa using hn)
    rw [this]
    simp [bytes, dgf, hi, List.getD_eq_getElem?_getD, this, intOf]
  · rw [List.getElem?_eq_none (by omega), List.getElem?_eq_none (by rw [bytes_len, dgf_len]; omega)]

theorem joi {cs x y : List Value} {k n : Nat} (h : (cs.drop k).take n = x) (h' : cs.drop (k + n) = y) : cs.drop k = x ++ y := by
  rw [cut cs k n, h, h']

theorem rd_line {cs : List Value} (h : Rdb enc w base sp held 37 cs) : ∃ l : Ln, cs = l.cells := by
  obtain ⟨h0, h⟩ := rd_field Tryz.underlying37 h
  rw [cz37] at h0
  simp only [List.mem_cons, List.not_mem_nil, or_false, forall_eq_or_imp, forall_eq, cz35, cz3, cz26] at h
  obtain ⟨h1, h2, h3, h4, h5⟩ := h
  obtain ⟨_, h1⟩ := rd_field Tryz.underlying35 h1
  simp only [List.mem_cons, List.not_mem_nil, or_false, forall_eq_or_imp, forall_eq, cz3] at h1
  obtain ⟨a1, a2, a3⟩ := h1
  obtain ⟨t, a1⟩ := rd_int Tryz.underlying3 a1
  obtain ⟨c, a2⟩ := rd_int Tryz.underlying3 a2
  obtain ⟨s, a3⟩ := rd_int Tryz.underlying3 a3
  obtain ⟨r, h2⟩ := rd_int Tryz.underlying3 h2
  obtain ⟨re, h3⟩ := rd_int Tryz.underlying3 h3
  obtain ⟨u, h4⟩ := rd_int Tryz.underlying3 h4
  obtain ⟨d, h5⟩ := rd_digest h5
  refine ⟨⟨t, c, s, r, re, u, d⟩, ?_⟩
  have e : (cs.drop 0).take 3 = [.int .i64 t] ++ ([.int .i64 c] ++ ([.int .i64 s] ++ [])) := joi (k := 0) (n := 1) a1 (joi (k := 1) (n := 1) a2 (joi (k := 2) (n := 1) a3 (by simp)))
  have f : cs.drop 0 = _ := joi (k := 0) (n := 3) e (joi (k := 3) (n := 1) h2 (joi (k := 4) (n := 1) h3 (joi (k := 5) (n := 1) h4 (joi (k := 6) (n := 32) h5 (List.drop_eq_nil_of_le (by omega))))))
  refine Eq.trans (show cs = cs.drop 0 from rfl) (f.trans ?_)
  simp [Ln.cells, i64s]

theorem rd_source {cs : List Value} (h : Rdb enc w base sp held 104 cs) : ∃ l : Sr, cs = l.cells := by
  obtain ⟨h0, h⟩ := rd_field Tryz.underlying104 h
  rw [cz104] at h0
  simp only [List.mem_cons, List.not_mem_nil, or_false, forall_eq_or_imp, forall_eq, cz3] at h
  obtain ⟨h1, h2⟩ := h
  obtain ⟨t, h1⟩ := rd_int Tryz.underlying3 h1
  obtain ⟨s, h2⟩ := rd_int Tryz.underlying3 h2
  refine ⟨⟨t, s⟩, ?_⟩
  have f : cs.drop 0 = _ := joi (k := 0) (n := 1) h1 (joi (k := 1) (n := 1) h2 (List.drop_eq_nil_of_le (by omega)))
  refine Eq.trans (show cs = cs.drop 0 from rfl) (f.trans ?_)
  simp [Sr.cells, i64s]

theorem rd_content {cs : List Value} (h : Rdb enc w base sp held 106 cs) : ∃ l : Ct, cs = l.cells := by
  obtain ⟨h0, h⟩ := rd_field Tryz.underlying106 h
  rw [cz106] at h0
  simp only [List.mem_cons, List.not_mem_nil, or_false, forall_eq_or_imp, forall_eq, cz98, cz26] at h
  obtain ⟨h1, h2, h3⟩ := h
  obtain ⟨_, h1⟩ := rd_field Tryz.underlying98 h1
  simp only [List.mem_cons, List.not_mem_nil, or_false, forall_eq_or_imp, forall_eq, cz3] at h1
  obtain ⟨a1, a2⟩ := h1
  obtain ⟨t, a1⟩ := rd_int Tryz.underlying3 a1
  obtain ⟨c, a2⟩ := rd_int Tryz.underlying3 a2
  obtain ⟨b, h2⟩ := rd_digest h2
  obtain ⟨a, h3⟩ := rd_digest h3
  refine ⟨⟨t, c, b, a⟩, ?_⟩
  have e : (cs.drop 0).take 2 = [.int .i64 t] ++ ([.int .i64 c] ++ []) := joi (k := 0) (n := 1) a1 (joi (k := 1) (n := 1) a2 (by simp))
  have f : cs.drop 0 = _ := joi (k := 0) (n := 2) e (joi (k := 2) (n := 32) h2 (joi (k := 34) (n := 32) h3 (List.drop_eq_nil_of_le (by omega))))
  refine Eq.trans (show cs = cs.drop 0 from rfl) (f.trans ?_)
  simp [Ct.cells, i64s]

theorem collect {α : Type} {p : Nat → α → Prop} : ∀ (n : Nat), (∀ i, i < n → ∃ x, p i x) → ∃ xs : List α, xs.length = n ∧ ∀ (i : Nat) (x : α), xs[i]? = some x → p i x
  | 0, _ => ⟨[], rfl, fun i x h => by simp at h⟩
  | n + 1, h => by
    obtain ⟨xs, hl, hx⟩ := collect n (fun i hi => h i (by omega))
    obtain ⟨y, hy⟩ := h n (by omega)
    refine ⟨xs ++ [y], by simp [hl], fun i x hi => ?_⟩
    by_cases hn : i < n
    · exact hx i x (by rwa [List.getElem?_append_left (by omega)] at hi)
    · rw [List.getElem?_append_right (by omega)] at hi
      have : i = n := by
        by_cases hz : i - xs.length = 0
        · omega
        · rw [List.getElem?_eq_none (by simp; omega)] at hi; cases hi
      subst this
      simp [hl] at hi
      subst hi
      exact hy

/-- A slice that came in, under the name j. -/
theorem rd_slice {α : Type} {g : α → List Value} {t e : TypeId} {k : Nat} {cs : List Value} (j : Nat) (hu : Tryz.prog.underlying t = some (.slice e)) (hk : Tryz.prog.cellsOf e = k) (hp : 0 < k)
    (hg : ∀ x, (g x).length = k) (hc : ∀ x, ∀ v ∈ g x, c2 v = true) (he : ∀ ecs, Rdb enc w base sp held e ecs → ∃ x, ecs = g x) (h : Rdb enc w base sp held t cs) :
    ∃ (a : Option Addr) (n c : Nat) (o : AObj) (xs : List α) (lo : Option Loc) (v : Value), cs = [v] ∧ SL j a n c o xs.length (xs.flatMap g) ∧ ∀ E : Env, E j = lo → VRel E (.slice a n c) v ∧ OR Tryz.prog w.heap.size E w j o := by
  obtain ⟨fuel, y, h⟩ := h
  rcases inv_slice hu h with rfl | ⟨a, len, cap, fuel', rfl, hlc, hi⟩
  · exact ⟨none, 0, 0, .dead, [], none, _, rfl, .inl ⟨.inl rfl, rfl, rfl, rfl, rfl⟩, fun E _ => ⟨.sliceNil, trivial⟩⟩
  cases len with
  | zero => exact ⟨some ⟨0, 0, some 1⟩, 0, 0, .dead, [], none, _, rfl, .inl ⟨.inr rfl, rfl, rfl, rfl, rfl⟩, fun E _ => ⟨.anonE a cap, trivial⟩⟩
  | succ n =>
    rw [hk] at hi
    obtain ⟨xs, hl, hx⟩ := collect (p := fun i x => w.cells? base (a.add (i * k)) k = some (g x)) (n + 1) (fun i hi' => by
      obtain ⟨ecs, y, h1, h2⟩ := hi i hi'
      obtain ⟨x, rfl⟩ := he ecs ⟨fuel', y, h2⟩
      exact ⟨x, h1⟩)
    obtain ⟨x0, h0⟩ : ∃ x0, xs[0]? = some x0 := ⟨_, List.getElem?_eq_getElem (by omega)⟩
    have hs := World.cells?_some (hx 0 x0 h0)
    have hb := World.cells?_block (hx 0 x0 h0) hp
    have h00 := hs.2.2 0 hp
    rw [Nat.zero_mul, Addr.add, if_pos rfl, Addr.add, if_pos rfl] at h00
    rw [Nat.zero_mul, Addr.add, if_pos rfl] at hb
    have hsp : a.spot = none := by
      cases ha : a.spot with
      | none => rfl
      | some z =>
        rw [List.getElem?_eq_getElem (by rw [hg]; exact hp)] at h00
        unfold World.cell? at h00
        split at h00 <;> simp [ha] at h00
    obtain ⟨b, off, s⟩ := a
    simp only at hsp
    subst hsp
    have hadd : ∀ off m, (⟨b, off, none⟩ : Addr).add m = ⟨b, off + m, none⟩ := fun off m => by
      unfold Addr.add
      split
      · subst_vars; rfl
      · rfl
    refine ⟨some ⟨j, 0, none⟩, n + 1, capG, .ro (xs.flatMap g), xs, some ⟨b, off, cap⟩, _, rfl, .inr ⟨rfl, rfl, rfl, hl.symm, ?_⟩, fun E hE => ⟨?_, ?_⟩⟩
    · intro v hv
      obtain ⟨x, _, hx⟩ := List.mem_flatMap.1 hv
      exact hc x v hx
    · have := VRel.slice (E := E) j 0 (n + 1) capG ⟨b, off, cap⟩ hE (by rw [relC_capG]; exact hlc)
      rw [relC_capG] at this
      exact this
    · refine ⟨⟨b, off, cap⟩, hE, hb, fun i hi => ?_⟩
      have hfl : (xs.flatMap g).length = xs.length * k := by
        clear hx h0 hi hl
        induction xs with
        | nil => simp
        | cons x xs ih => simp [List.flatMap_cons, hg, Nat.add_mul, ih]; omega
      have hq : i / k < xs.length := by rw [hfl] at hi; exact Nat.div_lt_of_lt_mul (by rw [Nat.mul_comm]; exact hi)
      have hr : i % k < k := Nat.mod_lt _ hp
      have hdm : i / k * k + i % k = i := by rw [Nat.mul_comm]; exact Nat.div_add_mod i k
      have hxe := List.getElem?_eq_getElem hq
      obtain ⟨f1, f2⟩ := flat_part g k xs (fun x _ => hg x) (i / k) _ hxe
      obtain ⟨_, hlg, hcell⟩ := World.cells?_some (hx _ _ hxe)
      have h5 := hcell (i % k) hr
      rw [hadd, hadd, Nat.add_assoc, hdm] at h5
      have h6 : (g xs[i / k])[i % k]? = (xs.flatMap g)[i]? := by
        rw [← f1, List.getElem?_take, if_pos hr, List.getElem?_drop, hdm]
      rw [h6, List.getElem?_eq_getElem hi] at h5
      refine ⟨_, h5, ?_⟩
      rw [List.getD_eq_getElem?_getD, List.getElem?_eq_getElem hi]
      refine .of_c2 ?_
      have hm : (xs.flatMap g)[i] ∈ xs.flatMap g := List.getElem_mem hi
      obtain ⟨x, _, hx⟩ := List.mem_flatMap.1 hm
      exact hc x _ hx
end
end Go.Abs

namespace Go.Abs
open Go.Proofs
open Go.RowKit (Below)
set_option maxRecDepth 100000

theorem SL.sn {j n c k : Nat} {a : Option Addr} {o : AObj} {cs : List Value} (h : SL j a n c o k cs) : SN j a n c := by
  rcases h with ⟨h1, h2, h3, _, _⟩ | ⟨h1, h2, _, _, _⟩
  · exact .inl ⟨h1, h2, h3⟩
  · exact .inr ⟨h1, h2⟩
theorem F2.app {α β : Type} {r : α → β → Prop} {a c : List α} {b d : List β} (h : F2 r a b) (h' : F2 r c d) : F2 r (a ++ c) (b ++ d) := by
  induction h with
  | nil => exact h'
  | cons hab _ ih => exact .cons hab ih
theorem F2.same {E : Env} : ∀ {l : List Value}, (∀ v ∈ l, c2 v = true) → F2 (VRel E) l l
  | [], _ => .nil
  | v :: l, h => .cons (.of_c2 (h v (List.mem_cons_self ..))) (F2.same fun x hx => h x (List.mem_cons_of_mem _ hx))

section
variable {H : Type} {enc : TypeId × Value → H} {w : World} {base : Nat} {sp : Nat → Bool} {held : Bool}

theorem rd_manifest {cs : List Value} (h : Rdb enc w base sp held 33 cs) : ∃ (m : Mg) (ls : List Ln) (ss : List Sr) (xs : List Ct) (o0 o1 o2 : AObj) (l0 l1 l2 l3 l4 : Option Loc),
    SL 0 m.a1 m.n1 m.c1 o0 ls.length (ls.flatMap Ln.cells) ∧ SL 1 m.a2 m.n2 m.c2 o1 ss.length (ss.flatMap Sr.cells) ∧ SL 2 m.a3 m.n3 m.c3 o2 xs.length (xs.flatMap Ct.cells) ∧ SN 3 m.a4 m.n4 m.c4 ∧ SN 4 m.a5 m.n5 m.c5 ∧
    ∀ E : Env, E 0 = l0 → E 1 = l1 → E 2 = l2 → E 3 = l3 → E 4 = l4 → F2 (VRel E) m.all cs ∧ OR Tryz.prog w.heap.size E w 0 o0 ∧ OR Tryz.prog w.heap.size E w 1 o1 ∧ OR Tryz.prog w.heap.size E w 2 o2 := by
  obtain ⟨h0, h⟩ := rd_field Tryz.underlying33 h
  rw [cz33] at h0
  simp only [List.mem_cons, List.not_mem_nil, or_false, forall_eq_or_imp, forall_eq, cz22, cz23, cz24, cz3, cz26, cz31] at h
  obtain ⟨h1, h2, h3, h4, h5, h6, h7⟩ := h
  obtain ⟨p, h1⟩ := rd_int Tryz.underlying3 h1
  obtain ⟨d, h2⟩ := rd_int Tryz.underlying3 h2
  obtain ⟨a1, n1, c1, o0, ls, l0, v1, e1, s1, r1⟩ := rd_slice (g := Ln.cells) 0 Tryz.underlying22 cz37 (by omega) Ln.len Ln.cc2 (fun ecs he => rd_line he) h3
  obtain ⟨a2, n2, c2, o1, ss, l1, v2, e2, s2, r2⟩ := rd_slice (g := Sr.cells) 1 Tryz.underlying23 cz104 (by omega) Sr.len Sr.cc2 (fun ecs he => rd_source he) h4
  obtain ⟨a3, n3, c3, o2, xs, l2, v3, e3, s3, r3⟩ := rd_slice (g := Ct.cells) 2 Tryz.underlying24 cz106 (by omega) Ct.len Ct.cc2 (fun ecs he => rd_content he) h5
  obtain ⟨rt, h6⟩ := rd_digest h6
  obtain ⟨_, h7⟩ := rd_field Tryz.underlying31 h7
  simp only [List.mem_cons, List.not_mem_nil, or_false, forall_eq_or_imp, forall_eq, cz27, cz29, cz3] at h7
  obtain ⟨b1, b2, b3⟩ := h7
  obtain ⟨_, b3⟩ := rd_field Tryz.underlying29 b3
  simp only [List.mem_cons, List.not_mem_nil, or_false, forall_eq_or_imp, forall_eq, cz27, cz3] at b3
  obtain ⟨b3, b4, b5⟩ := b3
  obtain ⟨si, b1⟩ := rd_int Tryz.underlying3 b1
  obtain ⟨pi, b3⟩ := rd_int Tryz.underlying3 b3
  obtain ⟨pc, b4⟩ := rd_int Tryz.underlying3 b4
  have hg : ∀ d : Nat → Int, (bytes (dgf d)).length = 32 := fun d => by rw [bytes_len, dgf_len]
  obtain ⟨a4, n4, c4, o3, _, l3, v4, e4, s4, r4⟩ := rd_slice (g := fun d => bytes (dgf d)) 3 Tryz.underlying27 cz26 (by omega) hg (fun _ => bytes_c2) (fun ecs he => rd_digest he) b2
  obtain ⟨a5, n5, c5, o4, _, l4, v5, e5, s5, r5⟩ := rd_slice (g := fun d => bytes (dgf d)) 4 Tryz.underlying27 cz26 (by omega) hg (fun _ => bytes_c2) (fun ecs he => rd_digest he) b5
  refine ⟨{ p := p, d := d, a1 := a1, n1 := n1, c1 := c1, a2 := a2, n2 := n2, c2 := c2, a3 := a3, n3 := n3, c3 := c3, rt := rt, si := si, a4 := a4, n4 := n4, c4 := c4, pi := pi, pc := pc, a5 := a5, n5 := n5, c5 := c5 }, ls, ss, xs, o0, o1, o2, l0, l1, l2, l3, l4, s1, s2, s3, s4.sn, s5.sn, ?_⟩
  intro E E0 E1 E2 E3 E4
  have g2 : (((cs.drop 37).take 5).drop 2).take 3 = [.int .i64 pi] ++ ([.int .i64 pc] ++ ([v5] ++ [])) := joi (k := 0) (n := 1) b3 (joi (k := 1) (n := 1) b4 (joi (k := 2) (n := 1) e5 (by simp)))
  have g1 : (cs.drop 37).take 5 = [.int .i64 si] ++ ([v4] ++ (_ ++ [])) := joi (k := 0) (n := 1) b1 (joi (k := 1) (n := 1) e4 (joi (k := 2) (n := 3) g2 (by simp)))
  have f : cs.drop 0 = _ := joi (k := 0) (n := 1) h1 (joi (k := 1) (n := 1) h2 (joi (k := 2) (n := 1) e1 (joi (k := 3) (n := 1) e2 (joi (k := 4) (n := 1) e3 (joi (k := 5) (n := 32) h6 (joi (k := 37) (n := 5) g1 (List.drop_eq_nil_of_le (by omega))))))))
  refine ⟨?_, (r1 E E0).2, (r2 E E1).2, (r3 E E2).2⟩
  rw [show cs = cs.drop 0 from rfl, f]
  simp only [List.cons_append, List.nil_append, List.append_nil]
  refine .cons (.int ..) (.cons (.int ..) (.cons (r1 E E0).1 (.cons (r2 E E1).1 (.cons (r3 E E2).1 (F2.app (F2.same bytes_c2) ?_)))))
  exact .cons (.int ..) (.cons (r4 E E3).1 (.cons (.int ..) (.cons (.int ..) (.cons (r5 E E4).1 .nil))))

theorem look3 (o0 o1 o2 : AObj) (i : Nat) : (⟨5, [(0, o0), (1, o1), (2, o2)]⟩ : Heap).get i = if 0 = i then o0 else if 1 = i then o1 else if 2 = i then o2 else .dead := by
  unfold Heap.get
  rw [look_cons, look_cons, look_cons]
  rfl

theorem call3 (h9 : ∀ H, Does Tryz.prog 9 [] H (.bool true) H) {a b : Array Value} {k : Int} (h0 : Rdb enc w base sp held 33 a.toList) (h2 : Rdb enc w base sp held 37 b.toList) :
    Calls Tryz.prog 3 #[.agg a, .int .i64 k, .agg b] w fun e w' => e = .returned (.bool true) ∧ Below w.heap.size w w' := by
  obtain ⟨m, ls, ss, xs, o0, o1, o2, l0, l1, l2, l3, l4, s1, s2, s3, s4, s5, hE⟩ := rd_manifest h0
  obtain ⟨l, hl⟩ := rd_line h2
  have hd := does3 h9 s1 s2 s3 s4 s5 k l
  let E : Env := fun i => if i = 0 then l0 else if i = 1 then l1 else if i = 2 then l2 else if i = 3 then l3 else if i = 4 then l4 else none
  obtain ⟨hF, r0, r1, r2⟩ := hE E rfl rfl rfl rfl rfl
  have hm : ∀ {j n c k : Nat} {a : Option Addr} {o : AObj} {cs : List Value}, SL j a n c o k cs → o.mut = false := fun h => by
    rcases h with ⟨_, _, _, rfl, _⟩ | ⟨_, _, rfl, _, _⟩ <;> rfl
  have hH : HRel Tryz.prog w.heap.size E ⟨5, [(0, o0), (1, o1), (2, o2)]⟩ w := by
    refine ⟨Nat.le_refl _, fun id lo h => ?_, fun id => ?_, fun i j li lj hi hj hi' => ?_⟩
    · show id < 5
      by_cases h5 : id < 5
      · exact h5
      · have : E id = none := by
          show (if id = 0 then l0 else if id = 1 then l1 else if id = 2 then l2 else if id = 3 then l3 else if id = 4 then l4 else none) = none
          rw [if_neg (by omega), if_neg (by omega), if_neg (by omega), if_neg (by omega), if_neg (by omega)]
        rw [this] at h
        cases h
    · rw [look3]
      split
      · subst_vars; exact r0
      · split
        · subst_vars; exact r1
        · split
          · subst_vars; exact r2
          · trivial
    · rw [look3] at hi'
      split at hi'
      · rw [hm s1] at hi'; cases hi'
      · split at hi'
        · rw [hm s2] at hi'; cases hi'
        · split at hi'
          · rw [hm s3] at hi'; cases hi'
          · cases hi'
  have hA : LRel E [.agg m.all.toArray, i64 k, .agg l.cells.toArray] #[.agg a, .int .i64 k, .agg b] :=
    ARel.of_F2 (l' := [.agg a, .int .i64 k, .agg b]) (.cons (.agg' (by simpa using ARel.of_F2 hF)) (.cons (.int ..) (.cons (.agg' (by rw [← hl]; simpa using ARel.of_F2 (F2.same (E := E) (l := b.toList) (by rw [hl]; exact l.cc2)))) .nil)))
  refine (hd w.heap.size E w _ hH hA).mono ?_
  rintro e w' ⟨E', v', _, _, hv, hB, rfl⟩
  cases hv
  exact ⟨rfl, hB⟩
end
end Go.Abs

