/- For every manifest, seed and index the statements ManifestSigns and ManifestAccepts of law 40 hold, with no condition. -/
import Derived.Test.YtkkocgjpfakfpaaGreatWCg
import Derived.ReadAgain
import Derived.ChangeSame
import Derived.Test.YtkkocgjpfakfpaaGreatRows
import Derived.DataReads
import Derived.WalkKit
import Derived.ProofKit
import Derived.OpenShut
import Derived.ShutString
import Derived.ChangeOld
import Derived.Carry
set_option linter.unusedSimpArgs false
set_option linter.unusedVariables false
namespace Go.Abs
open Go.Proofs
open Go.RowKit (Below)

section
variable {H : Type} {enc : TypeId × Value → H} {P : Program} {w : World} {base : Nat} {sp : Nat → Bool} {held : Bool}

theorem mapM_some {α β : Type} {f : α → Option β} : ∀ {l : List α} {ys : List β}, l.mapM f = some ys → ∀ x ∈ l, ∃ y, f x = some y
  | [], ys, _, x, hx => by cases hx
  | a :: l, ys, h, x, hx => by
    rw [List.mapM_cons] at h
    simp only [bind, Option.bind_eq_some_iff] at h
    obtain ⟨y, hy, ys', hys, _⟩ := h
    rcases List.mem_cons.1 hx with rfl | hx
    · exact ⟨y, hy⟩
    · exact mapM_some hys x hx

theorem inv_int {t : TypeId} {k : IntKind} {fuel : Nat} {cs : List Value} {x : DataW H × List MemPlace} (hu : P.underlying t = some (.int k)) (h : DataW.trod enc P w base sp held fuel t cs = some x) : ∃ n, cs = [.int k n] := by
  cases fuel with
  | zero => simp [DataW.trod] at h
  | succ fuel =>
    unfold DataW.trod at h
    rw [hu] at h
    split at h <;> simp_all
theorem inv_struct {t : TypeId} {fs : Array Field} {fuel : Nat} {cs : List Value} {x : DataW H × List MemPlace} (hu : P.underlying t = some (.struct fs)) (h : DataW.trod enc P w base sp held fuel t cs = some x) :
    cs.length = P.cellsOf t ∧ ∃ fuel', ∀ f ∈ fs.toList, ∃ y, DataW.trod enc P w base sp held fuel' f.type ((cs.drop f.offset).take (P.cellsOf f.type)) = some y := by
  cases fuel with
  | zero => simp [DataW.trod] at h
  | succ fuel =>
    unfold DataW.trod at h
    rw [hu] at h
    simp only at h
    split at h
    · rename_i hl
      simp only [Option.map_eq_some_iff] at h
      obtain ⟨ys, hy, _⟩ := h
      exact ⟨hl, fuel, mapM_some hy⟩
    · cases h
theorem inv_array {t e : TypeId} {n fuel : Nat} {cs : List Value} {x : DataW H × List MemPlace} (hu : P.underlying t = some (.array n e)) (h : DataW.trod enc P w base sp held fuel t cs = some x) :
    cs.length = P.cellsOf t ∧ ∃ fuel', ∀ i, i < n → ∃ y, DataW.trod enc P w base sp held fuel' e ((cs.drop (i * P.cellsOf e)).take (P.cellsOf e)) = some y := by
  cases fuel with
  | zero => simp [DataW.trod] at h
  | succ fuel =>
    unfold DataW.trod at h
    rw [hu] at h
    simp only at h
    split at h
    · rename_i hl
      simp only [Option.map_eq_some_iff] at h
      obtain ⟨ys, hy, _⟩ := h
      exact ⟨hl, fuel, fun i hi => mapM_some hy i (List.mem_range.2 hi)⟩
    · cases h
theorem inv_slice {t e : TypeId} {fuel : Nat} {cs : List Value} {x : DataW H × List MemPlace} (hu : P.underlying t = some (.slice e)) (h : DataW.trod enc P w base sp held fuel t cs = some x) :
    cs = [.slice none 0 0] ∨ ∃ a len cap fuel', cs = [.slice (some a) len cap] ∧ len ≤ cap ∧ ∀ i, i < len → ∃ ecs y, w.cells? base (a.add (i * P.cellsOf e)) (P.cellsOf e) = some ecs ∧ DataW.trod enc P w base sp held fuel' e ecs = some y := by
  cases fuel with
  | zero => simp [DataW.trod] at h
  | succ fuel =>
    unfold DataW.trod at h
    rw [hu] at h
    split at h
    all_goals first | (simp_all; done) | skip
    · rename_i e' a len cap heq
      cases heq
      refine .inr ?_
      split at h
      · rename_i hc
        simp only [Option.bind_eq_some_iff] at h
        obtain ⟨ys, hy, _⟩ := h
        refine ⟨a, len, cap, fuel, rfl, hc.2.1, fun i hi => ?_⟩
        obtain ⟨y, hy⟩ := mapM_some hy i (List.mem_range.2 hi)
        simp only [Option.bind_eq_some_iff] at hy
        obtain ⟨ecs, h1, h2⟩ := hy
        exact ⟨ecs, y, h1, h2⟩
      · cases h
end
end Go.Abs

namespace Go.Abs
open Go.Proofs
set_option maxRecDepth 100000

section
variable {H : Type} {enc : TypeId × Value → H} {w : World} {base : Nat} {sp : Nat → Bool} {held : Bool}

/-- These cells can be read as that type. -/
def Rdb (enc : TypeId × Value → H) (w : World) (base : Nat) (sp : Nat → Bool) (held : Bool) (t : TypeId) (cs : List Value) : Prop := ∃ fuel y, DataW.trod enc Tryz.prog w base sp held fuel t cs = some y

def intOf : Value → Int
  | .int _ n => n
  | _ => 0

theorem rd_int {t : TypeId} {k : IntKind} {cs : List Value} (hu : Tryz.prog.underlying t = some (.int k)) (h : Rdb enc w base sp held t cs) : ∃ n, cs = [.int k n] := by
  obtain ⟨fuel, y, h⟩ := h
  exact inv_int hu h
theorem rd_field {t : TypeId} {fs : Array Field} {cs : List Value} (hu : Tryz.prog.underlying t = some (.struct fs)) (h : Rdb enc w base sp held t cs) :
    cs.length = Tryz.prog.cellsOf t ∧ ∀ f ∈ fs.toList, Rdb enc w base sp held f.type ((cs.drop f.offset).take (Tryz.prog.cellsOf f.type)) := by
  obtain ⟨fuel, y, h⟩ := h
  obtain ⟨h1, fuel', h2⟩ := inv_struct hu h
  exact ⟨h1, fun f hf => ⟨fuel', h2 f hf⟩⟩
theorem one_at {cs : List Value} {i : Nat} {v : Value} (h : (cs.drop i).take 1 = [v]) : cs[i]? = some v := by
  have h1 : ((cs.drop i).take 1)[0]? = some v := by rw [h]; rfl
  simpa [List.getElem?_take, List.getElem?_drop] using h1
theorem cut (cs : List Value) (k n : Nat) : cs.drop k = (cs.drop k).take n ++ cs.drop (k + n) := by
  rw [← List.drop_drop, List.take_append_drop]

theorem cz26 : Tryz.prog.cellsOf 26 = 32 := by kernel_rfl
theorem cz5 : Tryz.prog.cellsOf 5 = 1 := by kernel_rfl
theorem cz3 : Tryz.prog.cellsOf 3 = 1 := by kernel_rfl
theorem cz33 : Tryz.prog.cellsOf 33 = 42 := by kernel_rfl
theorem cz37 : Tryz.prog.cellsOf 37 = 38 := by kernel_rfl
theorem cz104 : Tryz.prog.cellsOf 104 = 2 := by kernel_rfl
theorem cz106 : Tryz.prog.cellsOf 106 = 66 := by kernel_rfl
theorem cz98 : Tryz.prog.cellsOf 98 = 2 := by kernel_rfl
theorem cz35 : Tryz.prog.cellsOf 35 = 3 := by kernel_rfl
theorem cz31 : Tryz.prog.cellsOf 31 = 5 := by kernel_rfl
theorem cz29 : Tryz.prog.cellsOf 29 = 3 := by kernel_rfl
theorem cz27 : Tryz.prog.cellsOf 27 = 1 := by kernel_rfl
theorem cz22 : Tryz.prog.cellsOf 22 = 1 := by kernel_rfl
theorem cz23 : Tryz.prog.cellsOf 23 = 1 := by kernel_rfl
theorem cz24 : Tryz.prog.cellsOf 24 = 1 := by kernel_rfl

theorem rd_digest {cs : List Value} (h : Rdb enc w base sp held 26 cs) : ∃ d, cs = bytes (dgf d) := by
  obtain ⟨fuel, y, h⟩ := h
  obtain ⟨h1, fuel', h2⟩ := inv_array Tryz.underlying26 h
  rw [cz26] at h1
  rw [cz5] at h2
  refine ⟨fun i => intOf (cs.getD i undef), List.ext_getElem? fun i => ?_⟩
  by_cases hi : i < 32
  · obtain ⟨z, hz⟩ := h2 i hi
    obtain ⟨n, hn⟩ := inv_int Tryz.underlying5 hz
    have := one_at (by simpa using hn)
    rw [this]
    simp [bytes, dgf, hi, List.getD_eq_getElem?_getD, this, intOf]
  · rw [List.getElem?_eq_none (by omega), List.getElem?_eq_none (by rw [bytes_len, dgf_len]; omega)]

theorem joi {cs x y : List Value} {k n : Nat} (h : (cs.drop k).take n = x) (h' : cs.drop (k + n) = y) : cs.drop k = x ++ y := by
  rw [cut cs k n, h, h']

theorem rd_line {cs : List Value} (h : Rdb enc w base sp held 37 cs) : ∃ l : Ln, cs = l.cells := by
  obtain ⟨h0, h⟩ := rd_field Tryz.underlying37 h
  rw [cz37] at h0
  simp only [List.mem_cons, List.not_mem_nil, or_false, forall_eq_or_imp, forall_eq, cz35, cz3, cz26] at h
  obtain ⟨h1, h2, h3, h4, h5⟩ := h
  obtain ⟨_, h1⟩ := rd_field Tryz.underlying35 h1
  simp only [List.mem_cons, List.not_mem_nil, or_false, forall_eq_or_imp, forall_eq, cz3] at h1
  obtain ⟨a1, a2, a3⟩ := h1
  obtain ⟨t, a1⟩ := rd_int Tryz.underlying3 a1
  obtain ⟨c, a2⟩ := rd_int Tryz.underlying3 a2
  obtain ⟨s, a3⟩ := rd_int Tryz.underlying3 a3
  obtain ⟨r, h2⟩ := rd_int Tryz.underlying3 h2
  obtain ⟨re, h3⟩ := rd_int Tryz.underlying3 h3
  obtain ⟨u, h4⟩ := rd_int Tryz.underlying3 h4
  obtain ⟨d, h5⟩ := rd_digest h5
  refine ⟨⟨t, c, s, r, re, u, d⟩, ?_⟩
  have e : (cs.drop 0).take 3 = [.int .i64 t] ++ ([.int .i64 c] ++ ([.int .i64 s] ++ [])) := joi (k := 0) (n := 1) a1 (joi (k := 1) (n := 1) a2 (joi (k := 2) (n := 1) a3 (by simp)))
  have f : cs.drop 0 = _ := joi (k := 0) (n := 3) e (joi (k := 3) (n := 1) h2 (joi (k := 4) (n := 1) h3 (joi (k := 5) (n := 1) h4 (joi (k := 6) (n := 32) h5 (List.drop_eq_nil_of_le (by omega))))))
  refine Eq.trans (show cs = cs.drop 0 from rfl) (f.trans ?_)
  simp [Ln.cells, i64s]

theorem rd_source {cs : List Value} (h : Rdb enc w base sp held 104 cs) : ∃ l : Sr, cs = l.cells := by
  obtain ⟨h0, h⟩ := rd_field Tryz.underlying104 h
  rw [cz104] at h0
  simp only [List.mem_cons, List.not_mem_nil, or_false, forall_eq_or_imp, forall_eq, cz3] at h
  obtain ⟨h1, h2⟩ := h
  obtain ⟨t, h1⟩ := rd_int Tryz.underlying3 h1
  obtain ⟨s, h2⟩ := rd_int Tryz.underlying3 h2
  refine ⟨⟨t, s⟩, ?_⟩
  have f : cs.drop 0 = _ := joi (k := 0) (n := 1) h1 (joi (k := 1) (n := 1) h2 (List.drop_eq_nil_of_le (by omega)))
  refine Eq.trans (show cs = cs.drop 0 from rfl) (f.trans ?_)
  simp [Sr.cells, i64s]

theorem rd_content {cs : List Value} (h : Rdb enc w base sp held 106 cs) : ∃ l : Ct, cs = l.cells := by
  obtain ⟨h0, h⟩ := rd_field Tryz.underlying106 h
  rw [cz106] at h0
  simp only [List.mem_cons, List.not_mem_nil, or_false, forall_eq_or_imp, forall_eq, cz98, cz26] at h
  obtain ⟨h1, h2, h3⟩ := h
  obtain ⟨_, h1⟩ := rd_field Tryz.underlying98 h1
  simp only [List.mem_cons, List.not_mem_nil, or_false, forall_eq_or_imp, forall_eq, cz3] at h1
  obtain ⟨a1, a2⟩ := h1
  obtain ⟨t, a1⟩ := rd_int Tryz.underlying3 a1
  obtain ⟨c, a2⟩ := rd_int Tryz.underlying3 a2
  obtain ⟨b, h2⟩ := rd_digest h2
  obtain ⟨a, h3⟩ := rd_digest h3
  refine ⟨⟨t, c, b, a⟩, ?_⟩
  have e : (cs.drop 0).take 2 = [.int .i64 t] ++ ([.int .i64 c] ++ []) := joi (k := 0) (n := 1) a1 (joi (k := 1) (n := 1) a2 (by simp))
  have f : cs.drop 0 = _ := joi (k := 0) (n := 2) e (joi (k := 2) (n := 32) h2 (joi (k := 34) (n := 32) h3 (List.drop_eq_nil_of_le (by omega))))
  refine Eq.trans (show cs = cs.drop 0 from rfl) (f.trans ?_)
  simp [Ct.cells, i64s]

theorem collect {α : Type} {p : Nat → α → Prop} : ∀ (n : Nat), (∀ i, i < n → ∃ x, p i x) → ∃ xs : List α, xs.length = n ∧ ∀ (i : Nat) (x : α), xs[i]? = some x → p i x
  | 0, _ => ⟨[], rfl, fun i x h => by simp at h⟩
  | n + 1, h => by
    obtain ⟨xs, hl, hx⟩ := collect n (fun i hi => h i (by omega))
    obtain ⟨y, hy⟩ := h n (by omega)
    refine ⟨xs ++ [y], by simp [hl], fun i x hi => ?_⟩
    by_cases hn : i < n
    · exact hx i x (by rwa [List.getElem?_append_left (by omega)] at hi)
    · rw [List.getElem?_append_right (by omega)] at hi
      have : i = n := by
        by_cases hz : i - xs.length = 0
        · omega
        · rw [List.getElem?_eq_none (by simp; omega)] at hi; cases hi
      subst this
      simp [hl] at hi
      subst hi
      exact hy

/-- A slice that came in, under the name j. -/
theorem rd_slice {α : Type} {g : α → List Value} {t e : TypeId} {k : Nat} {cs : List Value} (j : Nat) (hu : Tryz.prog.underlying t = some (.slice e)) (hk : Tryz.prog.cellsOf e = k) (hp : 0 < k)
    (hg : ∀ x, (g x).length = k) (hc : ∀ x, ∀ v ∈ g x, c2 v = true) (he : ∀ ecs, Rdb enc w base sp held e ecs → ∃ x, ecs = g x) (h : Rdb enc w base sp held t cs) :
    ∃ (a : Option Addr) (n c : Nat) (o : AObj) (xs : List α) (lo : Option Loc) (v : Value), cs = [v] ∧ SL j a n c o xs.length (xs.flatMap g) ∧ ∀ E : Env, E j = lo → VRel E (.slice a n c) v ∧ OR Tryz.prog w.heap.size E w j o := by
  obtain ⟨fuel, y, h⟩ := h
  rcases inv_slice hu h with rfl | ⟨a, len, cap, fuel', rfl, hlc, hi⟩
  · exact ⟨none, 0, 0, .dead, [], none, _, rfl, .inl ⟨.inl rfl, rfl, rfl, rfl, rfl⟩, fun E _ => ⟨.sliceNil, trivial⟩⟩
  cases len with
  | zero => exact ⟨some ⟨0, 0, some 1⟩, 0, 0, .dead, [], none, _, rfl, .inl ⟨.inr rfl, rfl, rfl, rfl, rfl⟩, fun E _ => ⟨.anonE a cap, trivial⟩⟩
  | succ n =>
    rw [hk] at hi
    obtain ⟨xs, hl, hx⟩ := collect (p := fun i x => w.cells? base (a.add (i * k)) k = some (g x)) (n + 1) (fun i hi' => by
      obtain ⟨ecs, y, h1, h2⟩ := hi i hi'
      obtain ⟨x, rfl⟩ := he ecs ⟨fuel', y, h2⟩
      exact ⟨x, h1⟩)
    obtain ⟨x0, h0⟩ : ∃ x0, xs[0]? = some x0 := ⟨_, List.getElem?_eq_getElem (by omega)⟩
    have hs := World.cells?_some (hx 0 x0 h0)
    have hb := World.cells?_block (hx 0 x0 h0) hp
    have h00 := hs.2.2 0 hp
    rw [Nat.zero_mul, Addr.add, if_pos rfl, Addr.add, if_pos rfl] at h00
    rw [Nat.zero_mul, Addr.add, if_pos rfl] at hb
    have hsp : a.spot = none := by
      cases ha : a.spot with
      | none => rfl
      | some z =>
        rw [List.getElem?_eq_getElem (by rw [hg]; exact hp)] at h00
        unfold World.cell? at h00
        split at h00 <;> simp [ha] at h00
    obtain ⟨b, off, s⟩ := a
    simp only at hsp
    subst hsp
    have hadd : ∀ off m, (⟨b, off, none⟩ : Addr).add m = ⟨b, off + m, none⟩ := fun off m => by
      unfold Addr.add
      split
      · subst_vars; rfl
      · rfl
    refine ⟨some ⟨j, 0, none⟩, n + 1, capG, .ro (xs.flatMap g), xs, some ⟨b, off, cap⟩, _, rfl, .inr ⟨rfl, rfl, rfl, hl.symm, ?_⟩, fun E hE => ⟨?_, ?_⟩⟩
    · intro v hv
      obtain ⟨x, _, hx⟩ := List.mem_flatMap.1 hv
      exact hc x v hx
    · have := VRel.slice (E := E) j 0 (n + 1) capG ⟨b, off, cap⟩ hE (by rw [relC_capG]; exact hlc)
      rw [relC_capG] at this
      exact this
    · refine ⟨⟨b, off, cap⟩, hE, hb, fun i hi => ?_⟩
      have hfl : (xs.flatMap g).length = xs.length * k := by
        clear hx h0 hi hl
        induction xs with
        | nil => simp
        | cons x xs ih => simp [List.flatMap_cons, hg, Nat.add_mul, ih]; omega
      have hq : i / k < xs.length := by rw [hfl] at hi; exact Nat.div_lt_of_lt_mul (by rw [Nat.mul_comm]; exact hi)
      have hr : i % k < k := Nat.mod_lt _ hp
      have hdm : i / k * k + i % k = i := by rw [Nat.mul_comm]; exact Nat.div_add_mod i k
      have hxe := List.getElem?_eq_getElem hq
      obtain ⟨f1, f2⟩ := flat_part g k xs (fun x _ => hg x) (i / k) _ hxe
      obtain ⟨_, hlg, hcell⟩ := World.cells?_some (hx _ _ hxe)
      have h5 := hcell (i % k) hr
      rw [hadd, hadd, Nat.add_assoc, hdm] at h5
      have h6 : (g xs[i / k])[i % k]? = (xs.flatMap g)[i]? := by
        rw [← f1, List.getElem?_take, if_pos hr, List.getElem?_drop, hdm]
      rw [h6, List.getElem?_eq_getElem hi] at h5
      refine ⟨_, h5, ?_⟩
      rw [List.getD_eq_getElem?_getD, List.getElem?_eq_getElem hi]
      refine .of_c2 ?_
      have hm : (xs.flatMap g)[i] ∈ xs.flatMap g := List.getElem_mem hi
      obtain ⟨x, _, hx⟩ := List.mem_flatMap.1 hm
      exact hc x _ hx
end
end Go.Abs

namespace Go.Abs
open Go.Proofs
open Go.RowKit (Below)
set_option maxRecDepth 100000

theorem F2.app {α β : Type} {r : α → β → Prop} {a c : List α} {b d : List β} (h : F2 r a b) (h' : F2 r c d) : F2 r (a ++ c) (b ++ d) := by
  induction h with
  | nil => exact h'
  | cons hab _ ih => exact .cons hab ih
theorem F2.same {E : Env} : ∀ {l : List Value}, (∀ v ∈ l, c2 v = true) → F2 (VRel E) l l
  | [], _ => .nil
  | v :: l, h => .cons (.of_c2 (h v (List.mem_cons_self ..))) (F2.same fun x hx => h x (List.mem_cons_of_mem _ hx))

section
variable {H : Type} {enc : TypeId × Value → H} {w : World} {base : Nat} {sp : Nat → Bool} {held : Bool}

end
end Go.Abs

