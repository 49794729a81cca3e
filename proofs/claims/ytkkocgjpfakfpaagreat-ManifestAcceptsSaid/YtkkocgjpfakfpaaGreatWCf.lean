/- For every manifest, seed and index the statements ManifestSigns and ManifestAccepts of law 40 hold, with no condition. -/
import Derived.Test.YtkkocgjpfakfpaaGreatWCe
import Derived.ChangeKeysEq
import Derived.Laws.StructEq
set_option linter.unusedSimpArgs false
set_option linter.unusedVariables false
namespace Go.Abs
open Go.Proofs
set_option maxRecDepth 100000

/-- A line of a manifest. -/
structure Ln where
  t : Int
  c : Int
  s : Int
  r : Int
  re : Int
  u : Int
  d : Nat → Int
def Ln.cells (l : Ln) : List Value := i64s [l.t, l.c, l.s, l.r, l.re, l.u] ++ bytes (dgf l.d)
def Ln.nums (l : Ln) : List Int := vints [l.t, l.s, l.c, l.r, l.re, l.u]
def Ln.leaf (l : Ln) : List Int := sumS 402 (l.nums ++ dgf l.d)

theorem Ln.c2 (l : Ln) : Abs.c2 (.agg l.cells.toArray) = true := by
  simp only [Abs.c2, c1, List.all_toArray, List.all_eq_true, Ln.cells]
  intro v hv
  rcases List.mem_append.1 hv with hv | hv
  · obtain ⟨b, _, rfl⟩ := List.mem_map.1 hv; rfl
  · obtain ⟨b, _, rfl⟩ := List.mem_map.1 hv; rfl

theorem app_bytes (a b : List Int) (n : Nat) (hn : n = a.length) : (bytes a).take (n * 1) ++ bytes b = bytes (a ++ b) := by
  subst hn
  rw [take_bytes, bytes_append]
theorem nums_len (l : Ln) : l.nums.length ≤ 66 := vints_len _
theorem dgf_len (d : Nat → Int) : (dgf d).length = 32 := by simp [dgf]

noncomputable def oo32 : OpO := orO (callO Tryz.prog (oneC 30 encG)) (orO (callO Tryz.prog (oneC 31 sumG)) (appO Tryz.prog 24))
theorem oo32_sound : SoundO Tryz.prog oo32 := orO_sound (callO_sound encG_sound) (orO_sound (callO_sound sumG31_sound) appO_sound)
noncomputable def oo35 : OpO := orO (callO Tryz.prog (oneC 34 encG)) (orO (callO Tryz.prog (oneC 33 sumG)) (orO (callO Tryz.prog (oneC 36 bytG)) (appO Tryz.prog 25)))
theorem oo35_sound : SoundO Tryz.prog oo35 := orO_sound (callO_sound num34_sound) (orO_sound (callO_sound sumG33_sound) (orO_sound (callO_sound bytG_sound) appO_sound))

/-- What the digest is taken of. -/
def lnB (l : Ln) : List Value := (bytes l.nums).take (l.nums.length * 1) ++ bytes (dgf l.d)
theorem lnB_eq (l : Ln) : lnB l = bytes (l.nums ++ dgf l.d) := app_bytes _ _ _ rfl
def lnS (l : Ln) : Prop := 0 + (l.nums.length + 32) ≤ (lnB l).length ∧ l.nums.length + 32 ≤ 1000000 ∧ ∀ v ∈ ((lnB l).drop 0).take (l.nums.length + 32), isU8 v = true
theorem lnB_len (l : Ln) : (lnB l).length = l.nums.length + 32 := by rw [lnB_eq, bytes_len, List.length_append, dgf_len]
theorem lnB_take (l : Ln) : ((lnB l).drop 0).take (l.nums.length + 32) = bytes (l.nums ++ dgf l.d) := by
  rw [List.drop_zero, ← lnB_len, List.take_length, lnB_eq]
theorem lnS_ok (l : Ln) : lnS l := ⟨by rw [lnB_len]; omega, by have := nums_len l; omega, by rw [lnB_take]; exact bytes_u8⟩

theorem r32 (l : Ln) : (ex3 Tryz.prog pCall oo32 60 (codeOf Tryz.f32 []) ⟨⟨[.agg l.cells.toArray] ++ List.replicate 25 undef, ⟨0, []⟩, []⟩, True⟩).map (fin3 Tryz.prog Tryz.f32 [])
  = some (⟨1, some (dig (sumS 402 (unb (((lnB l).drop 0).take (l.nums.length + 32))))), 6, [], []⟩, lnS l ∧ AppC 1 0 1 5 5 0 capG l.nums.length 32 6 (bytes l.nums) l.cells ∧ True ∧ True) := by kernel_rfl
theorem r35 (l : Ln) : (ex3 Tryz.prog pCall oo35 60 (codeOf Tryz.f35 []) ⟨⟨[.agg l.cells.toArray] ++ List.replicate 26 undef, ⟨0, []⟩, []⟩, True⟩).map (fin3 Tryz.prog Tryz.f35 [])
  = some (⟨1, some (dig (sumS 402 (unb (((lnB l).drop 0).take (l.nums.length + 32))))), 6, [], []⟩, lnS l ∧ AppC 1 0 1 5 5 0 capG l.nums.length 32 0 (bytes l.nums) (bytes (dgf l.d)) ∧ BytC (bytes (dgf l.d)) ∧ True ∧ True) := by kernel_rfl

theorem does32 (l : Ln) (H : Heap) : Does Tryz.prog 32 [.agg l.cells.toArray] H (dig l.leaf) H := by
  refine Does.closed (H' := ⟨0, []⟩) (val_of_awp Tryz.func32 (c := codeOf Tryz.f32 []) rfl (dig_c2 _) (awp_of_awn (n := 0) ?_ (Nat.le_refl _))) (by rw [List.all_eq_true]; intro v hv; cases List.mem_singleton.1 hv; exact l.c2) (dig_c2 _) H
  have h1 := nums_len l
  have hd : (l.cells.drop 6).take (32 * 1) = bytes (dgf l.d) := rfl
  refine pieceF hm pCall_sound oo32_sound (r32 l) ⟨lnS_ok l, ⟨rfl, by omega, by omega, by omega, rfl, rfl, rfl, by rw [bytes_len]; omega, by simp [Ln.cells, i64s, bytes_len, dgf_len], by rw [hd]; exact bytes_one⟩, trivial, trivial⟩ ?_
  intro e T H he hr hn hg
  cases tag1 he
  exact ⟨.inr rfl, rfl, _, hr, by rw [lnB_take, unb_bytes]; rfl, keep0 _⟩
theorem does35 (l : Ln) (H : Heap) : Does Tryz.prog 35 [.agg l.cells.toArray] H (dig l.leaf) H := by
  refine Does.closed (H' := ⟨0, []⟩) (val_of_awp Tryz.func35 (c := codeOf Tryz.f35 []) rfl (dig_c2 _) (awp_of_awn (n := 0) ?_ (Nat.le_refl _))) (by rw [List.all_eq_true]; intro v hv; cases List.mem_singleton.1 hv; exact l.c2) (dig_c2 _) H
  have h1 := nums_len l
  have ha : AppC 1 0 1 5 5 0 capG l.nums.length 32 0 (bytes l.nums) (bytes (dgf l.d)) := by
    have := appC_bytes (bs := l.nums) (cs := dgf l.d) (by rw [dgf_len]; omega) (by rw [dgf_len]; omega)
    rwa [dgf_len] at this
  refine pieceF hm pCall_sound oo35_sound (r35 l) ⟨lnS_ok l, ha, ⟨by rw [bytes_len, dgf_len], bytes_u8⟩, trivial, trivial⟩ ?_
  intro e T H he hr hn hg
  cases tag1 he
  exact ⟨.inr rfl, rfl, _, hr, by rw [lnB_take, unb_bytes]; rfl, keep0 _⟩

end Go.Abs

namespace Go.Abs
open Go.Proofs
set_option maxRecDepth 100000

/-- Records and contents of a manifest. -/
structure Sr where
  t : Int
  s : Int
def Sr.cells (x : Sr) : List Value := i64s [x.t, x.s]
def Sr.leaf (x : Sr) : List Int := sumS 403 (vints [x.t, x.s])
structure Ct where
  k : Int
  i : Int
  b : Nat → Int
  a : Nat → Int
def Ct.cells (x : Ct) : List Value := i64s [x.k, x.i] ++ (bytes (dgf x.b) ++ bytes (dgf x.a))
def Ct.nums (x : Ct) : List Int := vints [x.k, x.i]
def Ct.leaf (x : Ct) : List Int := sumS 404 (x.nums ++ dgf x.b ++ dgf x.a)
def headL (p d n1 n2 n3 : Int) : List Int := sumS 401 (vints [p, d, n1, n2, n3])

theorem sumS_len (d : Int) (bs : List Int) : (sumS d bs).length = 32 := rfl

def flatD (ds : List (List Int)) : List Value := ds.flatMap bytes
theorem flatD_snoc (ds : List (List Int)) (x : List Int) : flatD (ds ++ [x]) = flatD ds ++ bytes x := by simp [flatD]
theorem flatD_len {ds : List (List Int)} (h : ∀ d ∈ ds, d.length = 32) : (flatD ds).length = ds.length * 32 := by
  induction ds with
  | nil => rfl
  | cons d ds ih =>
    have h1 := h d (List.mem_cons_self ..)
    have h2 := ih fun x hx => h x (List.mem_cons_of_mem _ hx)
    simp only [flatD, List.flatMap_cons, List.length_append, bytes_len, List.length_cons] at h2 ⊢
    omega
theorem flatD_c2 {ds : List (List Int)} : ∀ v ∈ flatD ds, c2 v = true := by
  intro v hv
  obtain ⟨d, _, hd⟩ := List.mem_flatMap.1 hv
  exact bytes_c2 v hd

/-- The cells of a manifest, as far as its leaves look at them. -/
def mcs (p d : Int) (a1 : Option Addr) (n1 c1 : Nat) (a2 : Option Addr) (n2 c2 : Nat) (a3 : Option Addr) (n3 c3 : Nat) (rest : List Value) : List Value :=
  i64 p :: i64 d :: .slice a1 n1 c1 :: .slice a2 n2 c2 :: .slice a3 n3 c3 :: rest
def jks : List Value := List.replicate 37 jk

def grD (ds : List (List Int)) : AObj := .grow (flatD ds) 26
abbrev H10 (o0 o1 o2 ob : AObj) (ds : List (List Int)) : Heap := mkH 6 [(0, o0), (1, o1), (2, o2), (3, ob), (4, .cells [sl 5 ds.length] 27), (5, grD ds)] []
abbrev T10 : List Value := mkT 92 [(1, pt 3), (2, pt 4)] jX
abbrev D10 : Defs := [(29, [pt 4])]

/-- Digests under a name of their own. -/
def SumC (f : Nat → Int) (d : Int) (cs : List Value) (off n : Nat) : Prop := dgf f = sumS d (unb ((cs.drop off).take n)) ∧ off + n ≤ cs.length ∧ n ≤ 1000000 ∧ ∀ v ∈ (cs.drop off).take n, isU8 v = true
def sumF (f : Nat → Int) : List Value → Heap → Option CallR := fun args H => match args with
  | [.int .u64 d, .slice (some ⟨id, off, none⟩) n _] => match H.row id with
    | some cs => some (.same (dig (dgf f)) (SumC f d cs off n))
    | none => none
  | _ => none
theorem sumF_key {k : FuncId} (hk : SoundC Tryz.prog (oneC k sumG)) (f : Nat → Int) : SoundC Tryz.prog (oneC k (sumF f)) := oneC_sound fun args H r h => by
  unfold sumF at h
  split at h
  case h_2 => cases h
  rename_i d id off n c
  split at h
  case h_2 => cases h
  rename_i cs hr
  cases h
  rintro ⟨h0, h1⟩
  rw [h0]
  exact hk.same k _ H _ _ (by simp only [oneC, Nat.beq_refl, cond_true, sumG, hr]) h1
theorem sumF31 (f : Nat → Int) : SoundC Tryz.prog (oneC 31 (sumF f)) := sumF_key sumG31_sound f
theorem sumF33 (f : Nat → Int) : SoundC Tryz.prog (oneC 33 (sumF f)) := sumF_key sumG33_sound f

def LfC (l : Ln) (f : Nat → Int) (v : Value) : Prop := dgf f = l.leaf ∧ v = .agg l.cells.toArray
def leafF (l : Ln) (f : Nat → Int) : List Value → Heap → Option CallR := fun args _ => match args with
  | [v] => some (.same (dig (dgf f)) (LfC l f v))
  | _ => none
theorem leafF32 (l : Ln) (f : Nat → Int) : SoundC Tryz.prog (oneC 32 (leafF l f)) := oneC_sound fun args H r h => by
  unfold leafF at h
  split at h
  case h_2 => cases h
  cases h
  rintro ⟨h0, h1⟩
  rw [h0, h1]
  exact does32 l H
theorem leafF35 (l : Ln) (f : Nat → Int) : SoundC Tryz.prog (oneC 35 (leafF l f)) := oneC_sound fun args H r h => by
  unfold leafF at h
  split at h
  case h_2 => cases h
  cases h
  rintro ⟨h0, h1⟩
  rw [h0, h1]
  exact does35 l H

noncomputable def oo10a (f : Nat → Int) : OpO := orO (callO Tryz.prog (oneC 30 encG)) (callO Tryz.prog (oneC 31 (sumF f)))
theorem oo10a_sound (f : Nat → Int) : SoundO Tryz.prog (oo10a f) := orO_sound (callO_sound encG_sound) (callO_sound (sumF31 f))
noncomputable def oo10b (l : Ln) (f : Nat → Int) : OpO := orO (callO Tryz.prog (oneC 32 (leafF l f))) (orO (idxO Tryz.prog 37) (orO (ldO Tryz.prog 38 (.agg l.cells.toArray)) (appO Tryz.prog 43)))
theorem oo10b_sound (l : Ln) (f : Nat → Int) : SoundO Tryz.prog (oo10b l f) := orO_sound (callO_sound (leafF32 l f)) (orO_sound idxO_sound (orO_sound ldO_sound appO_sound))
noncomputable def oo10c (x : Sr) (f : Nat → Int) : OpO := orO (callO Tryz.prog (oneC 30 encG)) (orO (callO Tryz.prog (oneC 31 (sumF f))) (orO (idxO Tryz.prog 50) (orO (ldO Tryz.prog 51 (.agg x.cells.toArray)) (appO Tryz.prog 61))))
theorem oo10c_sound (x : Sr) (f : Nat → Int) : SoundO Tryz.prog (oo10c x f) := orO_sound (callO_sound encG_sound) (orO_sound (callO_sound (sumF31 f)) (orO_sound idxO_sound (orO_sound ldO_sound appO_sound)))
noncomputable def oo10d (x : Ct) (f : Nat → Int) : OpO := orO (callO Tryz.prog (oneC 30 encG)) (orO (callO Tryz.prog (oneC 31 (sumF f))) (orO (idxO Tryz.prog 68) (orO (ldO Tryz.prog 69 (.agg x.cells.toArray)) (orO (appO Tryz.prog 81) (orO (appO Tryz.prog 86) (appO Tryz.prog 89))))))
theorem oo10d_sound (x : Ct) (f : Nat → Int) : SoundO Tryz.prog (oo10d x f) := orO_sound (callO_sound encG_sound) (orO_sound (callO_sound (sumF31 f)) (orO_sound idxO_sound (orO_sound ldO_sound (orO_sound appO_sound (orO_sound appO_sound appO_sound)))))
end Go.Abs

namespace Go.Abs
open Go.Proofs
set_option maxRecDepth 100000

theorem agg37 : isAggT Tryz.prog 37 = some true := by kernel_rfl
theorem siz37 : sizeT Tryz.prog 37 = some 38 := by kernel_rfl
theorem agg104 : isAggT Tryz.prog 104 = some true := by kernel_rfl
theorem siz104 : sizeT Tryz.prog 104 = some 2 := by kernel_rfl
theorem agg106 : isAggT Tryz.prog 106 = some true := by kernel_rfl
theorem siz106 : sizeT Tryz.prog 106 = some 66 := by kernel_rfl
theorem agg26 : isAggT Tryz.prog 26 = some true := by kernel_rfl
theorem siz26 : sizeT Tryz.prog 26 = some 32 := by kernel_rfl

/-- Rows of equal parts. -/
theorem flat_part {α : Type} (g : α → List Value) (k : Nat) : ∀ (l : List α), (∀ x ∈ l, (g x).length = k) → ∀ (i : Nat) (x : α), l[i]? = some x → ((l.flatMap g).drop (i * k)).take k = g x ∧ i * k + k ≤ (l.flatMap g).length
  | [], _, i, x, h => by simp at h
  | y :: l, hl, 0, x, h => by
    simp at h
    subst h
    have h1 := hl y (List.mem_cons_self ..)
    simp only [Nat.zero_mul, List.drop_zero, List.flatMap_cons, List.length_append]
    refine ⟨?_, by omega⟩
    rw [List.take_append_of_le_length (by omega), List.take_of_length_le (by omega)]
  | y :: l, hl, i + 1, x, h => by
    have h1 := hl y (List.mem_cons_self ..)
    obtain ⟨h2, h3⟩ := flat_part g k l (fun z hz => hl z (List.mem_cons_of_mem _ hz)) i x (by simpa using h)
    simp only [List.flatMap_cons, List.length_append]
    have e : (i + 1) * k = k + i * k := by rw [Nat.add_mul]; omega
    rw [e]
    refine ⟨?_, by omega⟩
    rw [← h1, ← List.drop_drop, List.drop_left' rfl, h1]
    exact h2

theorem Ln.len (l : Ln) : l.cells.length = 38 := by simp [Ln.cells, i64s, bytes_len, dgf_len]
theorem Sr.len (l : Sr) : l.cells.length = 2 := rfl
theorem Ct.len (l : Ct) : l.cells.length = 66 := by simp [Ct.cells, i64s, bytes_len, dgf_len]
theorem Ln.cc2 (l : Ln) : ∀ v ∈ l.cells, Abs.c2 v = true := by
  intro v hv
  rcases List.mem_append.1 hv with hv | hv
  · obtain ⟨b, _, rfl⟩ := List.mem_map.1 hv; rfl
  · obtain ⟨b, _, rfl⟩ := List.mem_map.1 hv; rfl
theorem Sr.cc2 (l : Sr) : ∀ v ∈ l.cells, Abs.c2 v = true := by
  intro v hv
  obtain ⟨b, _, rfl⟩ := List.mem_map.1 hv; rfl
theorem Ct.cc2 (l : Ct) : ∀ v ∈ l.cells, Abs.c2 v = true := by
  intro v hv
  rcases List.mem_append.1 hv with hv | hv
  · obtain ⟨b, _, rfl⟩ := List.mem_map.1 hv; rfl
  · rcases List.mem_append.1 hv with hv | hv
    · obtain ⟨b, _, rfl⟩ := List.mem_map.1 hv; rfl
    · obtain ⟨b, _, rfl⟩ := List.mem_map.1 hv; rfl

/-- A slice that is nil or a row of its own. -/
def SL (j : Nat) (a : Option Addr) (n c : Nat) (o : AObj) (k : Nat) (cs : List Value) : Prop :=
  ((a = none ∨ a = some ⟨0, 0, some 1⟩) ∧ n = 0 ∧ c = 0 ∧ o = .dead ∧ k = 0) ∨ (a = some ⟨j, 0, none⟩ ∧ c = capG ∧ o = .ro cs ∧ n = k ∧ ∀ v ∈ cs, c2 v = true)
theorem SL.ro {σ : Nat → Option Nat} {j n c k : Nat} {a : Option Addr} {o : AObj} {cs : List Value} (h : SL j a n c o k cs) : RO σ o o := by
  rcases h with ⟨_, _, _, rfl, _⟩ | ⟨_, _, rfl, _, h⟩
  · exact .dead _
  · exact .ro (RV.all h)
theorem SL.rv {σ : Nat → Option Nat} {j n c k : Nat} {a : Option Addr} {o : AObj} {cs : List Value} (h : SL j a n c o k cs) (hj : σ j = some j) : RV σ (.slice a n c) (.slice a n c) := by
  rcases h with ⟨rfl | rfl, rfl, rfl, _, _⟩ | ⟨rfl, rfl, _, _, _⟩
  · exact .closed rfl
  · exact .anonE
  · exact .slice hj

theorem wrap_i1 {i : Nat} (h : i ≤ 1000000000) : IntKind.i64.wrap ((i : Int) + 1) = ((i + 1 : Nat) : Int) := by
  simp [IntKind.wrap, IntKind.bits, IntKind.signed]
  omega
theorem RO.grD {σ : Nat → Option Nat} {ds : List (List Int)} : RO σ (grD ds) (grD ds) := .grow (RV.all flatD_c2)
theorem appD {ds : List (List Int)} {f : Nat → Int} (h : ∀ d ∈ ds, d.length = 32) (hn : ds.length ≤ 1000000) : AppC 32 31 32 26 26 0 capG ds.length 1 0 (flatD ds) (bytes (dgf f)) :=
  ⟨rfl, by omega, by omega, by omega, rfl, rfl, rfl, by rw [flatD_len h]; omega, by rw [bytes_len, dgf_len]; omega, fun v hv => bytes_one v (List.mem_of_mem_drop (List.mem_of_mem_take hv))⟩
theorem take_flatD {ds : List (List Int)} (h : ∀ d ∈ ds, d.length = 32) (x : List Int) : (flatD ds).take (ds.length * (31 + 1)) ++ bytes x = flatD (ds ++ [x]) := by
  rw [← flatD_len h, List.take_length, flatD_snoc]
theorem sumC_bytes {f : Nat → Int} {d : Int} {bs : List Int} (hf : dgf f = sumS d bs) (hl : bs.length ≤ 1000000) : SumC f d (bytes bs) 0 bs.length := by
  have e : ((bytes bs).drop 0).take bs.length = bytes bs := by rw [List.drop_zero]; have := take_bytes bs; rwa [Nat.mul_one] at this
  refine ⟨?_, by rw [bytes_len]; omega, hl, ?_⟩
  · rw [e, unb_bytes]; exact hf
  · rw [e]; exact bytes_u8
/-- A digest as a function. -/
def fn (l : List Int) : Nat → Int := fun i => l.getD i 0
theorem fn_sum (d : Int) (bs : List Int) : dgf (fn (sumS d bs)) = sumS d bs := dgf_of (sumS_len d bs)
end Go.Abs

namespace Go.Abs
open Go.Proofs
set_option maxRecDepth 100000

/-- The slices of a manifest and what they hold. -/
structure Mf where
  p : Int
  d : Int
  a1 : Option Addr
  n1 : Nat
  c1 : Nat
  a2 : Option Addr
  n2 : Nat
  c2 : Nat
  a3 : Option Addr
  n3 : Nat
  c3 : Nat
def Mf.mc (m : Mf) (rest : List Value) : List Value := mcs m.p m.d m.a1 m.n1 m.c1 m.a2 m.n2 m.c2 m.a3 m.n3 m.c3 rest
structure Mf.ok (m : Mf) (o0 o1 o2 : AObj) (ls : List Ln) (ss : List Sr) (xs : List Ct) : Prop where
  l : SL 0 m.a1 m.n1 m.c1 o0 ls.length (ls.flatMap Ln.cells)
  s : SL 1 m.a2 m.n2 m.c2 o1 ss.length (ss.flatMap Sr.cells)
  x : SL 2 m.a3 m.n3 m.c3 o2 xs.length (xs.flatMap Ct.cells)
  bl : ls.length ≤ 100000
  bs : ss.length ≤ 100000
  bx : xs.length ≤ 100000
theorem SL.n {j n c k : Nat} {a : Option Addr} {o : AObj} {cs : List Value} (h : SL j a n c o k cs) : n = k := by
  rcases h with ⟨_, rfl, _, _, rfl⟩ | ⟨_, _, _, h, _⟩
  · rfl
  · exact h
theorem SL.pos {j n c k : Nat} {a : Option Addr} {o : AObj} {cs : List Value} (h : SL j a n c o k cs) (hp : 0 < n) : a = some ⟨j, 0, none⟩ ∧ c = capG ∧ o = .ro cs := by
  rcases h with ⟨_, rfl, _, _, rfl⟩ | ⟨h1, h2, h3, _, _⟩
  · omega
  · exact ⟨h1, h2, h3⟩
theorem snoc_len {α : Type} (l : List α) (x : α) : (l ++ [x]).length = l.length + 1 := by simp
theorem d10_rv {s : List (Nat × Nat)} (h : sg 3 s 4 = some 4 := by rfl) : F2 (fun (d d2 : FuncId × List Value) => d.1 = d2.1 ∧ F2 (RV (sg 3 s)) d.2 d2.2) D10 D10 := .cons ⟨rfl, .cons (.ptr h) .nil⟩ .nil
theorem rv_jks {σ : Nat → Option Nat} : ∀ n, F2 (RV σ) (List.replicate n jk) (List.replicate n jk)
  | 0 => .nil
  | n + 1 => .cons .junk (rv_jks n)
theorem Mf.rv {σ : Nat → Option Nat} {m : Mf} {o0 o1 o2 : AObj} {ls : List Ln} {ss : List Sr} {xs : List Ct} (h : m.ok o0 o1 o2 ls ss xs) (h0 : σ 0 = some 0) (h1 : σ 1 = some 1) (h2 : σ 2 = some 2) : F2 (RV σ) (m.mc jks) (m.mc jks) :=
  .cons (.closed rfl) (.cons (.closed rfl) (.cons (h.l.rv h0) (.cons (h.s.rv h1) (.cons (h.x.rv h2) (rv_jks 37)))))

theorem r10a (o0 o1 o2 : AObj) (m : Mf) (f : Nat → Int) : (ex3 Tryz.prog pCall (oo10a f) 60 (pre 3 (codeOf Tryz.f10 [])) ⟨⟨[.agg (m.mc jks).toArray] ++ List.replicate 91 undef, ⟨3, [(0, o0), (1, o1), (2, o2)]⟩, []⟩, True⟩).map (obs3 [1,2] [0,1,2,3,4,8])
  = some (⟨0, [pt 3, pt 4], 92, 9, [o0, o1, o2, .cells (m.mc jks) 33, .cells [sl 8 1] 27, .grow (bytes (dgf f)) 26], D10⟩,
    some nilS = some nilS ∧ SumC f 401 (bytes (vints [m.p, m.d, m.n1, m.n2, m.n3])) 0 (vints [m.p, m.d, m.n1, m.n2, m.n3]).length ∧ True ∧ True) := by kernel_rfl
theorem r10z (o0 o1 o2 : AObj) (mc cs : List Value) (n : Nat) : (ex3 Tryz.prog pCall noOO 60 (codeOf Tryz.f10 [1,1,1,1,1,1,1]) ⟨⟨T10, mkH 6 [(0, o0), (1, o1), (2, o2), (3, .cells mc 33), (4, .cells [sl 5 n] 27), (5, .grow cs 26)] [], D10⟩, True⟩).map (fin3 Tryz.prog Tryz.f10 [0,1,2,5])
  = some (⟨1, some (sl 5 n), 6, [o0, o1, o2, .grow cs 26], D10⟩, True) := by kernel_rfl
theorem quiet29 : ((D10 : Defs).all fun d => quietDefer Tryz.prog d.1 && callable Tryz.prog d.1) = true := by kernel_rfl


def ctA (l : Ct) : List Value := (bytes l.nums).take (l.nums.length * 1) ++ bytes (dgf l.b)
def ctB (l : Ct) : List Value := (ctA l).take ((l.nums.length + 32) * 1) ++ bytes (dgf l.a)
theorem ctA_eq (l : Ct) : ctA l = bytes (l.nums ++ dgf l.b) := app_bytes _ _ _ rfl
theorem ctB_eq (l : Ct) : ctB l = bytes (l.nums ++ dgf l.b ++ dgf l.a) := by
  rw [ctB, ctA_eq]
  exact app_bytes _ _ _ (by rw [List.length_append, dgf_len])
theorem ct_nums (l : Ct) : l.nums.length ≤ 22 := vints_len _
theorem sum_ok1 (l : Ln) : ∃ f, LfC l f (.agg l.cells.toArray) ∧ dgf f = l.leaf := ⟨fn l.leaf, ⟨fn_sum _ _, rfl⟩, fn_sum _ _⟩
theorem sum_ok2 (l : Sr) : ∃ f, SumC f 403 (bytes (vints [l.t, l.s])) 0 (vints [l.t, l.s]).length ∧ dgf f = l.leaf := ⟨fn l.leaf, sumC_bytes (fn_sum _ _) (by have := vints_len [l.t, l.s]; simp only [List.length_cons, List.length_nil] at this; omega), fn_sum _ _⟩
theorem sum_ok3 (l : Ct) : ∃ f, SumC f 404 (ctB l) 0 (l.nums.length + 32 + 32) ∧ dgf f = l.leaf := by
  refine ⟨fn l.leaf, ?_, fn_sum _ _⟩
  have e : l.nums.length + 32 + 32 = (l.nums ++ dgf l.b ++ dgf l.a).length := by rw [List.length_append, List.length_append, dgf_len, dgf_len]
  rw [ctB_eq, e]
  exact sumC_bytes (fn_sum _ _) (by have := ct_nums l; simp [dgf_len]; omega)
theorem ct_app1 (l : Ct) : AppC 1 0 1 5 5 0 capG l.nums.length 32 2 (bytes l.nums) l.cells := by
  have := ct_nums l
  have hd : (l.cells.drop 2).take (32 * 1) = bytes (dgf l.b) := rfl
  exact ⟨rfl, by omega, by omega, by omega, rfl, rfl, rfl, by rw [bytes_len]; omega, by rw [l.len]; omega, by rw [hd]; exact bytes_one⟩
theorem ct_app2 (l : Ct) : AppC 1 0 1 5 5 0 capG (l.nums.length + 32) 32 34 (ctA l) l.cells := by
  have := ct_nums l
  have hd : (l.cells.drop 34).take (32 * 1) = bytes (dgf l.a) := rfl
  exact ⟨rfl, by omega, by omega, by omega, rfl, rfl, rfl, by rw [ctA_eq, bytes_len, List.length_append, dgf_len]; omega, by rw [l.len]; omega, by rw [hd]; exact bytes_one⟩


theorem r10R1 (o0 o1 o2 : AObj) (m : Mf) (cs : List Value) (n : Nat) : (ex3 Tryz.prog pCall noOO 60 (pre 0 (codeOf Tryz.f10 [1,1,1,1,0])) ⟨⟨T10, mkH 6 [(0, o0), (1, o1), (2, o2), (3, .cells (m.mc jks) 33), (4, .cells [sl 5 n] 27), (5, .grow cs 26)] [], D10⟩, True⟩).map (obsQ [1,2,33,34,35])
  = some (⟨0, [pt 3, pt 4, .slice m.a1 m.n1 m.c1, i64 m.n1, i64 ((0 : Nat) : Int)], 92, mkH 6 [(0, o0), (1, o1), (2, o2), (3, .cells (m.mc jks) 33), (4, .cells [sl 5 n] 27), (5, .grow cs 26)] [], D10⟩, True) := by kernel_rfl
theorem r10H1 (v : Value) (n1 i : Nat) (H : Heap) : (ex3 Tryz.prog pCall noOO 60 (pre 0 (codeOf Tryz.f10 [1,1,1,1,0,1,0,0])) ⟨⟨mkT 92 [(1, pt 3), (2, pt 4), (33, v), (34, i64 n1), (35, i64 i)] jX, H, D10⟩, True⟩).map (obsQ [1,2,33,34,35,36])
  = some (⟨0, [pt 3, pt 4, v, i64 n1, i64 i, .bool (decide ((i : Int) < (n1 : Int)))], 92, H, D10⟩, True) := by kernel_rfl
theorem r10B1 (o1 o2 : AObj) (b : Value) (mc cs cs0 : List Value) (l : Ln) (f : Nat → Int) (n n1 i : Nat) : (ex3 Tryz.prog pCall (oo10b l f) 60 (codeOf Tryz.f10 [1,1,1,1,0,1,0,0,1,1]) ⟨⟨mkT 92 [(1, pt 3), (2, pt 4), (33, sl 0 n1), (34, i64 n1), (35, i64 i), (36, b)] jX, mkH 6 [(0, .ro cs0), (1, o1), (2, o2), (3, .cells mc 33), (4, .cells [sl 5 n] 27), (5, .grow cs 26)] [], D10⟩, True⟩).map (obs3 [1,2,33,34,35] [0,1,2,3,4,8])
  = some (⟨0, [pt 3, pt 4, sl 0 n1, i64 n1, i64 (IntKind.i64.wrap ((i : Int) + 1))], 92, 9, [.ro cs0, o1, o2, .cells mc 33, .cells [sl 8 (n + 1)] 27, .grow (cs.take (n * (31 + 1)) ++ bytes (dgf f)) 26], D10⟩,
    AppC 32 31 32 26 26 0 capG n 1 0 cs (bytes (dgf f)) ∧ some (sl 5 n) = some (sl 5 n) ∧ LfC l f (.agg l.cells.toArray) ∧ LdC Tryz.prog 37 (some cs0) (0 + i * 38) (.agg l.cells.toArray) ∧ ((0 : Int) ≤ (i : Int) ∧ (i : Int) < (n1 : Int)) ∧ True) := by kernel_rfl

theorem lv1 {Q : APost} {o0 o1 o2 : AObj} {m : Mf} {ls : List Ln} {ss : List Sr} {xs : List Ct} (h : m.ok o0 o1 o2 ls ss xs) (ds : List (List Int)) (hds : ∀ d ∈ ds, d.length = 32) (hbd : ds.length ≤ 500000)
    (hQ : ∀ T H D, Nrm Tryz.prog 3 T H D T10 (H10 o0 o1 o2 (.cells (m.mc jks) 33) (ds ++ ls.map Ln.leaf)) D10 → Q .normal T H D) : Awn Tryz.prog 3 (codeOf Tryz.f10 [1,1,1,1,0]) Q T10 (H10 o0 o1 o2 (.cells (m.mc jks) 33) ds) D10 := by
  refine pieceT hm pCall_sound noOO_sound 0 (r10R1 o0 o1 o2 m _ _) rfl trivial rfl ?_
  refine awn_block (c := codeOf Tryz.f10 [1,1,1,1,0,1,0]) (awn_loop (c := codeOf Tryz.f10 [1,1,1,1,0,1,0,0])
    (fun k T H D => ∃ i, i + k = ls.length ∧ T = mkT 92 [(1, pt 3), (2, pt 4), (33, .slice m.a1 m.n1 m.c1), (34, i64 m.n1), (35, i64 i)] jX ∧ H = H10 o0 o1 o2 (.cells (m.mc jks) 33) (ds ++ (ls.take i).map Ln.leaf) ∧ D = D10)
    ls.length ⟨_, _, _, .refl _ _ _ _ _, 0, by omega, rfl, by simp [H10, grD], rfl⟩ ?_)
  rintro k T H D ⟨i, hk, rfl, rfl, rfl⟩
  have hn := h.l.n
  have hbl := h.bl
  have hds : ∀ d ∈ ds ++ (ls.take i).map Ln.leaf, d.length = 32 := fun d hd => by
    rcases List.mem_append.1 hd with hd | hd
    · exact hds d hd
    · obtain ⟨l, _, rfl⟩ := List.mem_map.1 hd; exact sumS_len _ _
  have hbd : (ds ++ (ls.take i).map Ln.leaf).length ≤ 1000000 := by simp; omega
  refine pieceT hm pCall_sound noOO_sound 0 (r10H1 _ _ i _) rfl trivial rfl ?_
  refine awn_seq (awn_cond (c := .tmp 36) (b := decide ((i : Int) < (m.n1 : Int))) rfl rfl ?_)
  cases k with
  | zero =>
    rw [decide_eq_false (by omega)]
    refine awn_exit (hQ _ _ _ ?_)
    have : ls.take i = ls := List.take_of_length_le (by omega)
    rw [show ds ++ ls.map Ln.leaf = ds ++ (ls.take i).map Ln.leaf by rw [this]]
    exact nrm_drop 2
  | succ k =>
    rw [decide_eq_true (by omega)]
    refine awn_skip ?_
    obtain ⟨ha, hcp, ho⟩ := h.l.pos (by omega)
    have hi : ls[i]? = some ls[i] := List.getElem?_eq_getElem (by omega)
    obtain ⟨hp1, hp2⟩ := flat_part Ln.cells 38 ls (fun x _ => x.len) i _ hi
    have hz : 0 + i * 38 = i * 38 := by omega
    generalize hl : ls[i] = l at *
    obtain ⟨f, hf, hfl⟩ := sum_ok1 l
    have hc : ∀ v ∈ ls.flatMap Ln.cells, c2 v = true := fun v hv => by
      obtain ⟨x, _, hx⟩ := List.mem_flatMap.1 hv
      exact x.cc2 v hx
    have hw := wrap_i1 (i := i) (by omega)
    have hr := r10B1 o1 o2 (.bool true) (m.mc jks) (flatD (ds ++ (ls.take i).map Ln.leaf)) (ls.flatMap Ln.cells) l f (ds ++ (ls.take i).map Ln.leaf).length m.n1 i
    rw [hw, hz, take_flatD hds, hfl] at hr
    have htk : ds ++ (ls.take i).map Ln.leaf ++ [l.leaf] = ds ++ (ls.take (i + 1)).map Ln.leaf := by
      rw [List.take_add_one, hi]; simp
    have hlen : (ds ++ (ls.take i).map Ln.leaf).length + 1 = (ds ++ (ls.take (i + 1)).map Ln.leaf).length := by rw [← htk]; exact (snoc_len _ _).symm
    rw [ha, hcp, show H10 o0 o1 o2 (.cells (m.mc jks) 33) (ds ++ (ls.take i).map Ln.leaf) = mkH 6 [(0, .ro (ls.flatMap Ln.cells)), (1, o1), (2, o2), (3, .cells (m.mc jks) 33), (4, .cells [sl 5 (ds ++ (ls.take i).map Ln.leaf).length] 27), (5, .grow (flatD (ds ++ (ls.take i).map Ln.leaf)) 26)] [] by rw [H10, ho]; rfl]
    have hfd := appD (f := f) hds hbd
    rw [hfl] at hfd
    show Awn Tryz.prog 3 (codeOf Tryz.f10 [1,1,1,1,0,1,0,0,1,1]) _ _ _ _
    refine pieceE hm pCall_sound (oo10b_sound l f) hr ⟨hfd, rfl, hf, ldC_agg agg37 siz37 hp2 hp1, ⟨by omega, by omega⟩, trivial⟩ rfl 6 [(3, 3), (4, 4), (5, 8)]
      (os2 := [(0, o0), (1, o1), (2, o2), (3, .cells (m.mc jks) 33), (4, .cells [sl 5 (ds ++ (ls.take (i + 1)).map Ln.leaf).length] 27), (5, grD (ds ++ (ls.take (i + 1)).map Ln.leaf))]) (D2 := D10) rfl ?_ d10_rv ?_
    · rw [ho, hlen, htk]
      exact (.cons ⟨rfl, .ro (RV.all hc)⟩ (.cons ⟨rfl, h.s.ro⟩ (.cons ⟨rfl, h.x.ro⟩ (.cons ⟨rfl, .cells (Mf.rv h rfl rfl rfl)⟩ (.cons ⟨rfl, .cells (.cons (.slice rfl) .nil)⟩ (.cons ⟨rfl, RO.grD⟩ .nil))))))
    · intro T H D hN
      exact ⟨k, by omega, _, _, _, hN, i + 1, by omega, rfl, rfl, rfl⟩


theorem r10R2 (o0 o1 o2 : AObj) (m : Mf) (cs : List Value) (n : Nat) : (ex3 Tryz.prog pCall noOO 60 (pre 0 (codeOf Tryz.f10 [1,1,1,1,1,0])) ⟨⟨T10, mkH 6 [(0, o0), (1, o1), (2, o2), (3, .cells (m.mc jks) 33), (4, .cells [sl 5 n] 27), (5, .grow cs 26)] [], D10⟩, True⟩).map (obsQ [1,2,46,47,48])
  = some (⟨0, [pt 3, pt 4, .slice m.a2 m.n2 m.c2, i64 m.n2, i64 ((0 : Nat) : Int)], 92, mkH 6 [(0, o0), (1, o1), (2, o2), (3, .cells (m.mc jks) 33), (4, .cells [sl 5 n] 27), (5, .grow cs 26)] [], D10⟩, True) := by kernel_rfl
theorem r10H2 (v : Value) (n1 i : Nat) (H : Heap) : (ex3 Tryz.prog pCall noOO 60 (pre 0 (codeOf Tryz.f10 [1,1,1,1,1,0,1,0,0])) ⟨⟨mkT 92 [(1, pt 3), (2, pt 4), (46, v), (47, i64 n1), (48, i64 i)] jX, H, D10⟩, True⟩).map (obsQ [1,2,46,47,48,49])
  = some (⟨0, [pt 3, pt 4, v, i64 n1, i64 i, .bool (decide ((i : Int) < (n1 : Int)))], 92, H, D10⟩, True) := by kernel_rfl
theorem r10B2 (o0 o2 : AObj) (b : Value) (mc cs cs0 : List Value) (l : Sr) (f : Nat → Int) (n n1 i : Nat) : (ex3 Tryz.prog pCall (oo10c l f) 60 (codeOf Tryz.f10 [1,1,1,1,1,0,1,0,0,1,1]) ⟨⟨mkT 92 [(1, pt 3), (2, pt 4), (46, sl 1 n1), (47, i64 n1), (48, i64 i), (49, b)] jX, mkH 6 [(0, o0), (1, .ro cs0), (2, o2), (3, .cells mc 33), (4, .cells [sl 5 n] 27), (5, .grow cs 26)] [], D10⟩, True⟩).map (obs3 [1,2,46,47,48] [0,1,2,3,4,10])
  = some (⟨0, [pt 3, pt 4, sl 1 n1, i64 n1, i64 (IntKind.i64.wrap ((i : Int) + 1))], 92, 11, [o0, .ro cs0, o2, .cells mc 33, .cells [sl 10 (n + 1)] 27, .grow (cs.take (n * (31 + 1)) ++ bytes (dgf f)) 26], D10⟩,
    AppC 32 31 32 26 26 0 capG n 1 0 cs (bytes (dgf f)) ∧ some (sl 5 n) = some (sl 5 n) ∧ SumC f 403 (bytes (vints [l.t, l.s])) 0 (vints [l.t, l.s]).length ∧ some (sl 5 n) = some (sl 5 n) ∧ True ∧ some (sl 5 n) = some (sl 5 n) ∧ some (sl 5 n) = some (sl 5 n) ∧ LdC Tryz.prog 104 (some cs0) (0 + i * 2) (.agg l.cells.toArray) ∧ ((0 : Int) ≤ (i : Int) ∧ (i : Int) < (n1 : Int)) ∧ True) := by kernel_rfl

theorem lv2 {Q : APost} {o0 o1 o2 : AObj} {m : Mf} {ls : List Ln} {ss : List Sr} {xs : List Ct} (h : m.ok o0 o1 o2 ls ss xs) (ds : List (List Int)) (hds : ∀ d ∈ ds, d.length = 32) (hbd : ds.length ≤ 500000)
    (hQ : ∀ T H D, Nrm Tryz.prog 3 T H D T10 (H10 o0 o1 o2 (.cells (m.mc jks) 33) (ds ++ ss.map Sr.leaf)) D10 → Q .normal T H D) : Awn Tryz.prog 3 (codeOf Tryz.f10 [1,1,1,1,1,0]) Q T10 (H10 o0 o1 o2 (.cells (m.mc jks) 33) ds) D10 := by
  refine pieceT hm pCall_sound noOO_sound 0 (r10R2 o0 o1 o2 m _ _) rfl trivial rfl ?_
  refine awn_block (c := codeOf Tryz.f10 [1,1,1,1,1,0,1,0]) (awn_loop (c := codeOf Tryz.f10 [1,1,1,1,1,0,1,0,0])
    (fun k T H D => ∃ i, i + k = ss.length ∧ T = mkT 92 [(1, pt 3), (2, pt 4), (46, .slice m.a2 m.n2 m.c2), (47, i64 m.n2), (48, i64 i)] jX ∧ H = H10 o0 o1 o2 (.cells (m.mc jks) 33) (ds ++ (ss.take i).map Sr.leaf) ∧ D = D10)
    ss.length ⟨_, _, _, .refl _ _ _ _ _, 0, by omega, rfl, by simp [H10, grD], rfl⟩ ?_)
  rintro k T H D ⟨i, hk, rfl, rfl, rfl⟩
  have hn := h.s.n
  have hbl := h.bs
  have hds : ∀ d ∈ ds ++ (ss.take i).map Sr.leaf, d.length = 32 := fun d hd => by
    rcases List.mem_append.1 hd with hd | hd
    · exact hds d hd
    · obtain ⟨l, _, rfl⟩ := List.mem_map.1 hd; exact sumS_len _ _
  have hbd : (ds ++ (ss.take i).map Sr.leaf).length ≤ 1000000 := by simp; omega
  refine pieceT hm pCall_sound noOO_sound 0 (r10H2 _ _ i _) rfl trivial rfl ?_
  refine awn_seq (awn_cond (c := .tmp 49) (b := decide ((i : Int) < (m.n2 : Int))) rfl rfl ?_)
  cases k with
  | zero =>
    rw [decide_eq_false (by omega)]
    refine awn_exit (hQ _ _ _ ?_)
    have : ss.take i = ss := List.take_of_length_le (by omega)
    rw [show ds ++ ss.map Sr.leaf = ds ++ (ss.take i).map Sr.leaf by rw [this]]
    exact nrm_drop 2
  | succ k =>
    rw [decide_eq_true (by omega)]
    refine awn_skip ?_
    obtain ⟨ha, hcp, ho⟩ := h.s.pos (by omega)
    have hi : ss[i]? = some ss[i] := List.getElem?_eq_getElem (by omega)
    obtain ⟨hp1, hp2⟩ := flat_part Sr.cells 2 ss (fun x _ => x.len) i _ hi
    have hz : 0 + i * 2 = i * 2 := by omega
    generalize hl : ss[i] = l at *
    obtain ⟨f, hf, hfl⟩ := sum_ok2 l
    have hc : ∀ v ∈ ss.flatMap Sr.cells, c2 v = true := fun v hv => by
      obtain ⟨x, _, hx⟩ := List.mem_flatMap.1 hv
      exact x.cc2 v hx
    have hw := wrap_i1 (i := i) (by omega)
    have hr := r10B2 o0 o2 (.bool true) (m.mc jks) (flatD (ds ++ (ss.take i).map Sr.leaf)) (ss.flatMap Sr.cells) l f (ds ++ (ss.take i).map Sr.leaf).length m.n2 i
    rw [hw, hz, take_flatD hds, hfl] at hr
    have htk : ds ++ (ss.take i).map Sr.leaf ++ [l.leaf] = ds ++ (ss.take (i + 1)).map Sr.leaf := by
      rw [List.take_add_one, hi]; simp
    have hlen : (ds ++ (ss.take i).map Sr.leaf).length + 1 = (ds ++ (ss.take (i + 1)).map Sr.leaf).length := by rw [← htk]; exact (snoc_len _ _).symm
    rw [ha, hcp, show H10 o0 o1 o2 (.cells (m.mc jks) 33) (ds ++ (ss.take i).map Sr.leaf) = mkH 6 [(0, o0), (1, .ro (ss.flatMap Sr.cells)), (2, o2), (3, .cells (m.mc jks) 33), (4, .cells [sl 5 (ds ++ (ss.take i).map Sr.leaf).length] 27), (5, .grow (flatD (ds ++ (ss.take i).map Sr.leaf)) 26)] [] by rw [H10, ho]; rfl]
    have hfd := appD (f := f) hds hbd
    rw [hfl] at hfd
    show Awn Tryz.prog 3 (codeOf Tryz.f10 [1,1,1,1,1,0,1,0,0,1,1]) _ _ _ _
    refine pieceE hm pCall_sound (oo10c_sound l f) hr ⟨hfd, rfl, hf, rfl, trivial, rfl, rfl, ldC_agg agg104 siz104 hp2 hp1, ⟨by omega, by omega⟩, trivial⟩ rfl 6 [(3, 3), (4, 4), (5, 10)]
      (os2 := [(0, o0), (1, o1), (2, o2), (3, .cells (m.mc jks) 33), (4, .cells [sl 5 (ds ++ (ss.take (i + 1)).map Sr.leaf).length] 27), (5, grD (ds ++ (ss.take (i + 1)).map Sr.leaf))]) (D2 := D10) rfl ?_ d10_rv ?_
    · rw [ho, hlen, htk]
      exact (.cons ⟨rfl, h.l.ro⟩ (.cons ⟨rfl, .ro (RV.all hc)⟩ (.cons ⟨rfl, h.x.ro⟩ (.cons ⟨rfl, .cells (Mf.rv h rfl rfl rfl)⟩ (.cons ⟨rfl, .cells (.cons (.slice rfl) .nil)⟩ (.cons ⟨rfl, RO.grD⟩ .nil))))))
    · intro T H D hN
      exact ⟨k, by omega, _, _, _, hN, i + 1, by omega, rfl, rfl, rfl⟩


theorem r10R3 (o0 o1 o2 : AObj) (m : Mf) (cs : List Value) (n : Nat) : (ex3 Tryz.prog pCall noOO 60 (pre 0 (codeOf Tryz.f10 [1,1,1,1,1,1,0])) ⟨⟨T10, mkH 6 [(0, o0), (1, o1), (2, o2), (3, .cells (m.mc jks) 33), (4, .cells [sl 5 n] 27), (5, .grow cs 26)] [], D10⟩, True⟩).map (obsQ [1,2,64,65,66])
  = some (⟨0, [pt 3, pt 4, .slice m.a3 m.n3 m.c3, i64 m.n3, i64 ((0 : Nat) : Int)], 92, mkH 6 [(0, o0), (1, o1), (2, o2), (3, .cells (m.mc jks) 33), (4, .cells [sl 5 n] 27), (5, .grow cs 26)] [], D10⟩, True) := by kernel_rfl
theorem r10H3 (v : Value) (n1 i : Nat) (H : Heap) : (ex3 Tryz.prog pCall noOO 60 (pre 0 (codeOf Tryz.f10 [1,1,1,1,1,1,0,1,0,0])) ⟨⟨mkT 92 [(1, pt 3), (2, pt 4), (64, v), (65, i64 n1), (66, i64 i)] jX, H, D10⟩, True⟩).map (obsQ [1,2,64,65,66,67])
  = some (⟨0, [pt 3, pt 4, v, i64 n1, i64 i, .bool (decide ((i : Int) < (n1 : Int)))], 92, H, D10⟩, True) := by kernel_rfl
theorem r10B3 (o0 o1 : AObj) (b : Value) (mc cs cs0 : List Value) (l : Ct) (f : Nat → Int) (n n1 i : Nat) : (ex3 Tryz.prog pCall (oo10d l f) 60 (codeOf Tryz.f10 [1,1,1,1,1,1,0,1,0,0,1,1]) ⟨⟨mkT 92 [(1, pt 3), (2, pt 4), (64, sl 2 n1), (65, i64 n1), (66, i64 i), (67, b)] jX, mkH 6 [(0, o0), (1, o1), (2, .ro cs0), (3, .cells mc 33), (4, .cells [sl 5 n] 27), (5, .grow cs 26)] [], D10⟩, True⟩).map (obs3 [1,2,64,65,66] [0,1,2,3,4,12])
  = some (⟨0, [pt 3, pt 4, sl 2 n1, i64 n1, i64 (IntKind.i64.wrap ((i : Int) + 1))], 92, 13, [o0, o1, .ro cs0, .cells mc 33, .cells [sl 12 (n + 1)] 27, .grow (cs.take (n * (31 + 1)) ++ bytes (dgf f)) 26], D10⟩,
    AppC 32 31 32 26 26 0 capG n 1 0 cs (bytes (dgf f)) ∧ some (sl 5 n) = some (sl 5 n) ∧ SumC f 404 (ctB l) 0 (l.nums.length + 32 + 32) ∧ some (sl 5 n) = some (sl 5 n) ∧ AppC 1 0 1 5 5 0 capG (l.nums.length + 32) 32 34 (ctA l) l.cells ∧ some (sl 5 n) = some (sl 5 n) ∧ AppC 1 0 1 5 5 0 capG l.nums.length 32 2 (bytes l.nums) l.cells ∧ True ∧ LdC Tryz.prog 106 (some cs0) (0 + i * 66) (.agg l.cells.toArray) ∧ ((0 : Int) ≤ (i : Int) ∧ (i : Int) < (n1 : Int)) ∧ True) := by kernel_rfl

theorem lv3 {Q : APost} {o0 o1 o2 : AObj} {m : Mf} {ls : List Ln} {ss : List Sr} {xs : List Ct} (h : m.ok o0 o1 o2 ls ss xs) (ds : List (List Int)) (hds : ∀ d ∈ ds, d.length = 32) (hbd : ds.length ≤ 500000)
    (hQ : ∀ T H D, Nrm Tryz.prog 3 T H D T10 (H10 o0 o1 o2 (.cells (m.mc jks) 33) (ds ++ xs.map Ct.leaf)) D10 → Q .normal T H D) : Awn Tryz.prog 3 (codeOf Tryz.f10 [1,1,1,1,1,1,0]) Q T10 (H10 o0 o1 o2 (.cells (m.mc jks) 33) ds) D10 := by
  refine pieceT hm pCall_sound noOO_sound 0 (r10R3 o0 o1 o2 m _ _) rfl trivial rfl ?_
  refine awn_block (c := codeOf Tryz.f10 [1,1,1,1,1,1,0,1,0]) (awn_loop (c := codeOf Tryz.f10 [1,1,1,1,1,1,0,1,0,0])
    (fun k T H D => ∃ i, i + k = xs.length ∧ T = mkT 92 [(1, pt 3), (2, pt 4), (64, .slice m.a3 m.n3 m.c3), (65, i64 m.n3), (66, i64 i)] jX ∧ H = H10 o0 o1 o2 (.cells (m.mc jks) 33) (ds ++ (xs.take i).map Ct.leaf) ∧ D = D10)
    xs.length ⟨_, _, _, .refl _ _ _ _ _, 0, by omega, rfl, by simp [H10, grD], rfl⟩ ?_)
  rintro k T H D ⟨i, hk, rfl, rfl, rfl⟩
  have hn := h.x.n
  have hbl := h.bx
  have hds : ∀ d ∈ ds ++ (xs.take i).map Ct.leaf, d.length = 32 := fun d hd => by
    rcases List.mem_append.1 hd with hd | hd
    · exact hds d hd
    · obtain ⟨l, _, rfl⟩ := List.mem_map.1 hd; exact sumS_len _ _
  have hbd : (ds ++ (xs.take i).map Ct.leaf).length ≤ 1000000 := by simp; omega
  refine pieceT hm pCall_sound noOO_sound 0 (r10H3 _ _ i _) rfl trivial rfl ?_
  refine awn_seq (awn_cond (c := .tmp 67) (b := decide ((i : Int) < (m.n3 : Int))) rfl rfl ?_)
  cases k with
  | zero =>
    rw [decide_eq_false (by omega)]
    refine awn_exit (hQ _ _ _ ?_)
    have : xs.take i = xs := List.take_of_length_le (by omega)
    rw [show ds ++ xs.map Ct.leaf = ds ++ (xs.take i).map Ct.leaf by rw [this]]
    exact nrm_drop 2
  | succ k =>
    rw [decide_eq_true (by omega)]
    refine awn_skip ?_
    obtain ⟨ha, hcp, ho⟩ := h.x.pos (by omega)
    have hi : xs[i]? = some xs[i] := List.getElem?_eq_getElem (by omega)
    obtain ⟨hp1, hp2⟩ := flat_part Ct.cells 66 xs (fun x _ => x.len) i _ hi
    have hz : 0 + i * 66 = i * 66 := by omega
    generalize hl : xs[i] = l at *
    obtain ⟨f, hf, hfl⟩ := sum_ok3 l
    have hc : ∀ v ∈ xs.flatMap Ct.cells, c2 v = true := fun v hv => by
      obtain ⟨x, _, hx⟩ := List.mem_flatMap.1 hv
      exact x.cc2 v hx
    have hw := wrap_i1 (i := i) (by omega)
    have hr := r10B3 o0 o1 (.bool true) (m.mc jks) (flatD (ds ++ (xs.take i).map Ct.leaf)) (xs.flatMap Ct.cells) l f (ds ++ (xs.take i).map Ct.leaf).length m.n3 i
    rw [hw, hz, take_flatD hds, hfl] at hr
    have htk : ds ++ (xs.take i).map Ct.leaf ++ [l.leaf] = ds ++ (xs.take (i + 1)).map Ct.leaf := by
      rw [List.take_add_one, hi]; simp
    have hlen : (ds ++ (xs.take i).map Ct.leaf).length + 1 = (ds ++ (xs.take (i + 1)).map Ct.leaf).length := by rw [← htk]; exact (snoc_len _ _).symm
    rw [ha, hcp, show H10 o0 o1 o2 (.cells (m.mc jks) 33) (ds ++ (xs.take i).map Ct.leaf) = mkH 6 [(0, o0), (1, o1), (2, .ro (xs.flatMap Ct.cells)), (3, .cells (m.mc jks) 33), (4, .cells [sl 5 (ds ++ (xs.take i).map Ct.leaf).length] 27), (5, .grow (flatD (ds ++ (xs.take i).map Ct.leaf)) 26)] [] by rw [H10, ho]; rfl]
    have hfd := appD (f := f) hds hbd
    rw [hfl] at hfd
    show Awn Tryz.prog 3 (codeOf Tryz.f10 [1,1,1,1,1,1,0,1,0,0,1,1]) _ _ _ _
    refine pieceE hm pCall_sound (oo10d_sound l f) hr ⟨hfd, rfl, hf, rfl, ct_app2 l, rfl, ct_app1 l, trivial, ldC_agg agg106 siz106 hp2 hp1, ⟨by omega, by omega⟩, trivial⟩ rfl 6 [(3, 3), (4, 4), (5, 12)]
      (os2 := [(0, o0), (1, o1), (2, o2), (3, .cells (m.mc jks) 33), (4, .cells [sl 5 (ds ++ (xs.take (i + 1)).map Ct.leaf).length] 27), (5, grD (ds ++ (xs.take (i + 1)).map Ct.leaf))]) (D2 := D10) rfl ?_ d10_rv ?_
    · rw [ho, hlen, htk]
      exact (.cons ⟨rfl, h.l.ro⟩ (.cons ⟨rfl, h.s.ro⟩ (.cons ⟨rfl, .ro (RV.all hc)⟩ (.cons ⟨rfl, .cells (Mf.rv h rfl rfl rfl)⟩ (.cons ⟨rfl, .cells (.cons (.slice rfl) .nil)⟩ (.cons ⟨rfl, RO.grD⟩ .nil))))))
    · intro T H D hN
      exact ⟨k, by omega, _, _, _, hN, i + 1, by omega, rfl, rfl, rfl⟩


/-- The leaves of a manifest. -/
def leaves (m : Mf) (ls : List Ln) (ss : List Sr) (xs : List Ct) : List (List Int) := [headL m.p m.d m.n1 m.n2 m.n3] ++ ls.map Ln.leaf ++ ss.map Sr.leaf ++ xs.map Ct.leaf
theorem leaves_32 {m : Mf} {ls : List Ln} {ss : List Sr} {xs : List Ct} : ∀ d ∈ leaves m ls ss xs, d.length = 32 := by
  intro d hd
  simp only [leaves, List.mem_append, List.mem_map, List.mem_singleton] at hd
  rcases hd with ((rfl | ⟨_, _, rfl⟩) | ⟨_, _, rfl⟩) | ⟨_, _, rfl⟩ <;> exact sumS_len _ _

theorem keep3 {o0 o1 o2 : AObj} {H : Heap} (h1 : 3 ≤ H.next) (g0 : H.get 0 = o0) (g1 : H.get 1 = o1) (g2 : H.get 2 = o2) : Keep ⟨3, [(0, o0), (1, o1), (2, o2)]⟩ H := ⟨h1, fun id hid => by
  have : id = 0 ∨ id = 1 ∨ id = 2 := by have : id < 3 := hid; omega
  rcases this with rfl | rfl | rfl
  · rw [g0]; rfl
  · rw [g1]; rfl
  · rw [g2]; rfl⟩

theorem does10 {o0 o1 o2 : AObj} {m : Mf} {ls : List Ln} {ss : List Sr} {xs : List Ct} (h : m.ok o0 o1 o2 ls ss xs) :
    Does Tryz.prog 10 [.agg (m.mc jks).toArray] ⟨3, [(0, o0), (1, o1), (2, o2)]⟩ (.slice (some ⟨3, 0, none⟩) (leaves m ls ss xs).length capG) ((⟨3, [(0, o0), (1, o1), (2, o2)]⟩ : Heap).push (grD (leaves m ls ss xs))) := by
  refine new_of_awp Tryz.func10 (c := codeOf Tryz.f10 []) rfl flatD_c2 (awp_of_awn (n := 3) ?_ (Nat.le_refl _))
  have hb1 := h.bl
  have hb2 := h.bs
  have hb3 := h.bx
  have hf : dgf (fn (headL m.p m.d m.n1 m.n2 m.n3)) = headL m.p m.d m.n1 m.n2 m.n3 := fn_sum _ _
  refine pieceS hm pCall_sound (oo10a_sound _) 3 (r10a o0 o1 o2 m (fn (headL m.p m.d m.n1 m.n2 m.n3))) rfl ⟨rfl, sumC_bytes hf (by have := vints_len [m.p, m.d, m.n1, m.n2, m.n3]; simp only [List.length_cons, List.length_nil] at this; omega), trivial, trivial⟩ rfl 6 [(3, 3), (4, 4), (5, 8)]
    (os2 := [(0, o0), (1, o1), (2, o2), (3, .cells (m.mc jks) 33), (4, .cells [sl 5 1] 27), (5, grD [headL m.p m.d m.n1 m.n2 m.n3])]) (D2 := D10) rfl ?_ d10_rv ?_
  · refine .cons ⟨rfl, h.l.ro⟩ (.cons ⟨rfl, h.s.ro⟩ (.cons ⟨rfl, h.x.ro⟩ (.cons ⟨rfl, .cells (Mf.rv h rfl rfl rfl)⟩ (.cons ⟨rfl, .cells (.cons (.slice rfl) .nil)⟩ (.cons ⟨rfl, ?_⟩ .nil)))))
    have : grD [headL m.p m.d m.n1 m.n2 m.n3] = .grow (bytes (dgf (fn (headL m.p m.d m.n1 m.n2 m.n3)))) 26 := by rw [hf]; simp [grD, flatD]
    rw [this]
    exact .grow (RV.all bytes_c2)
  · refine awn_seq (x := codeOf Tryz.f10 [1,1,1,1,0]) (y := codeOf Tryz.f10 [1,1,1,1,1]) ?_
    refine lv1 h [headL m.p m.d m.n1 m.n2 m.n3] (fun d hd => by rw [List.mem_singleton.1 hd]; exact sumS_len _ _) (by simp) ?_
    intro T H D hN
    refine awn_nrm hN ?_
    refine awn_seq (x := codeOf Tryz.f10 [1,1,1,1,1,0]) (y := codeOf Tryz.f10 [1,1,1,1,1,1]) ?_
    refine lv2 h _ (fun d hd => ?_) (by simp; omega) ?_
    · simp only [List.mem_append, List.mem_map, List.mem_singleton] at hd
      rcases hd with rfl | ⟨_, _, rfl⟩ <;> exact sumS_len _ _
    intro T H D hN
    refine awn_nrm hN ?_
    refine awn_seq (x := codeOf Tryz.f10 [1,1,1,1,1,1,0]) (y := codeOf Tryz.f10 [1,1,1,1,1,1,1]) ?_
    refine lv3 h _ (fun d hd => ?_) (by simp; omega) ?_
    · simp only [List.mem_append, List.mem_map, List.mem_singleton] at hd
      rcases hd with (rfl | ⟨_, _, rfl⟩) | ⟨_, _, rfl⟩ <;> exact sumS_len _ _
    intro T H D hN
    refine awn_nrm hN ?_
    refine pieceF hm pCall_sound noOO_sound (r10z o0 o1 o2 _ _ _) trivial ?_
    intro e T H he hr hn hg
    cases tag1 he
    exact ⟨.inr rfl, quiet29, _, hr, ⟨5, rfl, by show 3 ≤ 5; omega, hg (5, _) (.tail _ (.tail _ (.tail _ (.head _))))⟩, keep3 (by rw [hn]; show 3 ≤ 6; omega) (hg (0, _) (.head _)) (hg (1, _) (.tail _ (.head _))) (hg (2, _) (.tail _ (.tail _ (.head _))))⟩
end Go.Abs

namespace Go.Abs
open Go.Proofs
set_option maxRecDepth 100000

noncomputable def oo11a (f : Nat → Int) : OpO := orO (callO Tryz.prog (oneC 34 encG)) (callO Tryz.prog (oneC 33 (sumF f)))
theorem oo11a_sound (f : Nat → Int) : SoundO Tryz.prog (oo11a f) := orO_sound (callO_sound num34_sound) (callO_sound (sumF33 f))
noncomputable def oo11b (l : Ln) (f : Nat → Int) : OpO := orO (callO Tryz.prog (oneC 35 (leafF l f))) (orO (idxO Tryz.prog 37) (orO (ldO Tryz.prog 38 (.agg l.cells.toArray)) (appO Tryz.prog 41)))
theorem oo11b_sound (l : Ln) (f : Nat → Int) : SoundO Tryz.prog (oo11b l f) := orO_sound (callO_sound (leafF35 l f)) (orO_sound idxO_sound (orO_sound ldO_sound appO_sound))
noncomputable def oo11c (x : Sr) (f : Nat → Int) : OpO := orO (callO Tryz.prog (oneC 34 encG)) (orO (callO Tryz.prog (oneC 33 (sumF f))) (orO (idxO Tryz.prog 53) (orO (ldO Tryz.prog 55 (i64 x.t)) (orO (idxO Tryz.prog 59) (orO (ldO Tryz.prog 61 (i64 x.s)) (appO Tryz.prog 66))))))
theorem oo11c_sound (x : Sr) (f : Nat → Int) : SoundO Tryz.prog (oo11c x f) := orO_sound (callO_sound num34_sound) (orO_sound (callO_sound (sumF33 f)) (orO_sound idxO_sound (orO_sound ldO_sound (orO_sound idxO_sound (orO_sound ldO_sound appO_sound)))))
noncomputable def oo11d (x : Ct) (f : Nat → Int) : OpO := orO (callO Tryz.prog (oneC 34 encG)) (orO (callO Tryz.prog (oneC 36 bytG)) (orO (callO Tryz.prog (oneC 33 (sumF f))) (orO (idxO Tryz.prog 77) (orO (ldO Tryz.prog 78 (.agg x.cells.toArray)) (orO (appO Tryz.prog 90) (orO (appO Tryz.prog 96) (appO Tryz.prog 99)))))))
theorem oo11d_sound (x : Ct) (f : Nat → Int) : SoundO Tryz.prog (oo11d x f) := orO_sound (callO_sound num34_sound) (orO_sound (callO_sound bytG_sound) (orO_sound (callO_sound (sumF33 f)) (orO_sound idxO_sound (orO_sound ldO_sound (orO_sound appO_sound (orO_sound appO_sound appO_sound))))))

theorem r11z (o0 o1 o2 : AObj) (mc cs : List Value) (v b : Value) (n : Nat) : (ex3 Tryz.prog pCall noOO 60 (codeOf Tryz.f11 [1,1,1,1,1]) ⟨⟨mkT 101 [(1, pt 3), (3, sl 4 n)] jX, mkH 5 [(0, o0), (1, o1), (2, o2), (3, .cells mc 33), (4, .grow cs 26)] [], []⟩, True⟩).map (fin3 Tryz.prog Tryz.f11 [0,1,2,4])
  = some (⟨1, some (sl 4 n), 5, [o0, o1, o2, .grow cs 26], []⟩, True) := by kernel_rfl
theorem byt_ok (d : Nat → Int) : BytC (bytes (dgf d)) := ⟨by rw [bytes_len, dgf_len], bytes_u8⟩
theorem ct_app3 (l : Ct) : AppC 1 0 1 5 5 0 capG l.nums.length 32 0 (bytes l.nums) (bytes (dgf l.b)) := by
  have := ct_nums l
  have h := appC_bytes (bs := l.nums) (cs := dgf l.b) (by rw [dgf_len]; omega) (by rw [dgf_len]; omega)
  rwa [dgf_len] at h
theorem ct_app4 (l : Ct) : AppC 1 0 1 5 5 0 capG (l.nums.length + 32) 32 0 (ctA l) (bytes (dgf l.a)) := by
  have := ct_nums l
  have h := appC_bytes (bs := l.nums ++ dgf l.b) (cs := dgf l.a) (by rw [dgf_len]; omega) (by simp [dgf_len]; omega)
  rwa [← ctA_eq, List.length_append, dgf_len, dgf_len] at h
theorem agg3 : isAggT Tryz.prog 3 = some false := by kernel_rfl
theorem ldC_one {cs : List Value} {off : Nat} {v : Value} (h : cs[off]? = some v) : LdC Tryz.prog 3 (some cs) off v := by
  unfold LdC ldR
  simp [agg3, h]
theorem sr_at {cs : List Value} {i : Nat} {l : Sr} (h : (cs.drop (i * 2)).take 2 = l.cells) : cs[0 + i * 2 + 0]? = some (i64 l.t) ∧ cs[0 + i * 2 + 1]? = some (i64 l.s) := by
  have h0 : ((cs.drop (i * 2)).take 2)[0]? = some (i64 l.t) := by rw [h]; rfl
  have h1 : ((cs.drop (i * 2)).take 2)[1]? = some (i64 l.s) := by rw [h]; rfl
  rw [List.getElem?_take, if_pos (by omega), List.getElem?_drop] at h0 h1
  rw [Nat.zero_add]
  exact ⟨h0, h1⟩

abbrev H11 (o0 o1 o2 ob : AObj) (ds : List (List Int)) : Heap := mkH 5 [(0, o0), (1, o1), (2, o2), (3, ob), (4, grD ds)] []
abbrev T11 (n : Nat) : List Value := mkT 101 [(1, pt 3), (3, sl 4 n)] jX


theorem r11R1 (v : Value) (H : Heap) : (ex3 Tryz.prog pCall noOO 60 (pre 0 (codeOf Tryz.f11 [1,1,0])) ⟨⟨mkT 101 [(1, pt 3), (3, v)] jX, H, []⟩, True⟩).map (obsQ [1,3,4])
  = some (⟨0, [pt 3, v, i64 ((0 : Nat) : Int)], 101, H, []⟩, True) := by kernel_rfl
theorem r11H1 (o0 o1 o2 o4 : AObj) (m : Mf) (v : Value) (i : Nat) : (ex3 Tryz.prog pCall noOO 60 (pre 0 (codeOf Tryz.f11 [1,1,0,1,0,0,0])) ⟨⟨mkT 101 [(1, pt 3), (3, v), (4, i64 i)] jX, mkH 5 [(0, o0), (1, o1), (2, o2), (3, .cells (m.mc jks) 33), (4, o4)] [], []⟩, True⟩).map (obsQ [1,3,4,30])
  = some (⟨0, [pt 3, v, i64 i, .bool (decide ((i : Int) < (m.n1 : Int)))], 101, mkH 5 [(0, o0), (1, o1), (2, o2), (3, .cells (m.mc jks) 33), (4, o4)] [], []⟩, True) := by kernel_rfl
theorem r11B1 (o1 o2 : AObj) (p d : Int) (n1 : Nat) (a2 : Option Addr) (n2 : Nat) (c2 : Nat) (a3 : Option Addr) (n3 : Nat) (c3 : Nat) (b : Value) (cs cs0 : List Value) (l : Ln) (f : Nat → Int) (n i : Nat) : (ex3 Tryz.prog pCall (oo11b l f) 60 (codeOf Tryz.f11 [1,1,0,1,0,0,1]) ⟨⟨mkT 101 [(1, pt 3), (3, sl 4 n), (4, i64 i), (30, b)] jX, mkH 5 [(0, .ro cs0), (1, o1), (2, o2), (3, .cells (mcs p d (some ⟨0, 0, none⟩) n1 capG a2 n2 c2 a3 n3 c3 jks) 33), (4, .grow cs 26)] [], []⟩, True⟩).map (obs3 [1,3,4] [0,1,2,3,6])
  = some (⟨0, [pt 3, sl 6 (n + 1), i64 (IntKind.i64.wrap ((i : Int) + 1))], 101, 7, [.ro cs0, o1, o2, .cells (mcs p d (some ⟨0, 0, none⟩) n1 capG a2 n2 c2 a3 n3 c3 jks) 33, .grow (cs.take (n * (31 + 1)) ++ bytes (dgf f)) 26], []⟩,
    AppC 32 31 32 26 26 0 capG n 1 0 cs (bytes (dgf f)) ∧ LfC l f (.agg l.cells.toArray) ∧ LdC Tryz.prog 37 (some cs0) (0 + i * 38) (.agg l.cells.toArray) ∧ ((0 : Int) ≤ (i : Int) ∧ (i : Int) < (n1 : Int)) ∧ True) := by kernel_rfl

theorem rd1 {Q : APost} {o0 o1 o2 : AObj} {m : Mf} {ls : List Ln} {ss : List Sr} {xs : List Ct} (h : m.ok o0 o1 o2 ls ss xs) (ds : List (List Int)) (hds : ∀ d ∈ ds, d.length = 32) (hbd : ds.length ≤ 1000000) (i k : Nat) (hk : i + (k + 1) = ls.length) (b : Value)
    (hQ : ∀ T H D l, ls[i]? = some l → Nrm Tryz.prog 3 T H D (mkT 101 [(1, pt 3), (3, sl 4 (ds.length + 1)), (4, i64 ((i + 1 : Nat) : Int))] jX) (H11 o0 o1 o2 (.cells (m.mc jks) 33) (ds ++ [l.leaf])) [] → Q .normal T H D) :
    Awn Tryz.prog 3 (codeOf Tryz.f11 [1,1,0,1,0,0,1]) Q (mkT 101 [(1, pt 3), (3, sl 4 ds.length), (4, i64 i), (30, b)] jX) (H11 o0 o1 o2 (.cells (m.mc jks) 33) ds) [] := by
  have hn := h.l.n
  have hbl := h.bl
  obtain ⟨ha, hcp, ho⟩ := h.l.pos (by omega)
  have hi : ls[i]? = some ls[i] := List.getElem?_eq_getElem (by omega)
  obtain ⟨hp1, hp2⟩ := flat_part Ln.cells 38 ls (fun x _ => x.len) i _ hi
  have hz : 0 + i * 38 = i * 38 := by omega
  generalize hl : ls[i] = l at *
  obtain ⟨f, hf, hfl⟩ := sum_ok1 l
  have hc : ∀ v ∈ ls.flatMap Ln.cells, c2 v = true := fun v hv => by
    obtain ⟨x, _, hx⟩ := List.mem_flatMap.1 hv
    exact x.cc2 v hx
  have hw := wrap_i1 (i := i) (by omega)
  have hr := r11B1 o1 o2 m.p m.d m.n1 m.a2 m.n2 m.c2 m.a3 m.n3 m.c3 b (flatD ds) (ls.flatMap Ln.cells) l f ds.length i
  have hmc : mcs m.p m.d (some ⟨0, 0, none⟩) m.n1 capG m.a2 m.n2 m.c2 m.a3 m.n3 m.c3 jks = m.mc jks := by rw [Mf.mc, ha, hcp]
  rw [hw, hz, take_flatD hds, hfl, hmc] at hr
  rw [show H11 o0 o1 o2 (.cells (m.mc jks) 33) ds = mkH 5 [(0, .ro (ls.flatMap Ln.cells)), (1, o1), (2, o2), (3, .cells (m.mc jks) 33), (4, .grow (flatD ds) 26)] [] by rw [H11, ho]; rfl]
  have hfd := appD (f := f) hds hbd
  rw [hfl] at hfd
  refine pieceE hm pCall_sound (oo11b_sound l f) hr ⟨hfd, hf, ldC_agg agg37 siz37 hp2 hp1, ⟨by omega, by omega⟩, trivial⟩ rfl 5 [(3, 3), (4, 6)]
    (os2 := [(0, o0), (1, o1), (2, o2), (3, .cells (m.mc jks) 33), (4, grD (ds ++ [l.leaf]))]) rfl ?_ .nil (fun T H D hN => hQ T H D l hi hN)
  rw [ho]
  exact (.cons ⟨rfl, .ro (RV.all hc)⟩ (.cons ⟨rfl, h.s.ro⟩ (.cons ⟨rfl, h.x.ro⟩ (.cons ⟨rfl, .cells (Mf.rv h rfl rfl rfl)⟩ (.cons ⟨rfl, RO.grD⟩ .nil)))))


theorem r11R2 (v : Value) (H : Heap) : (ex3 Tryz.prog pCall noOO 60 (pre 0 (codeOf Tryz.f11 [1,1,1,0])) ⟨⟨mkT 101 [(1, pt 3), (3, v)] jX, H, []⟩, True⟩).map (obsQ [1,3,5])
  = some (⟨0, [pt 3, v, i64 ((0 : Nat) : Int)], 101, H, []⟩, True) := by kernel_rfl
theorem r11H2 (o0 o1 o2 o4 : AObj) (m : Mf) (v : Value) (i : Nat) : (ex3 Tryz.prog pCall noOO 60 (pre 0 (codeOf Tryz.f11 [1,1,1,0,1,0,0,0])) ⟨⟨mkT 101 [(1, pt 3), (3, v), (5, i64 i)] jX, mkH 5 [(0, o0), (1, o1), (2, o2), (3, .cells (m.mc jks) 33), (4, o4)] [], []⟩, True⟩).map (obsQ [1,3,5,46])
  = some (⟨0, [pt 3, v, i64 i, .bool (decide ((i : Int) < (m.n2 : Int)))], 101, mkH 5 [(0, o0), (1, o1), (2, o2), (3, .cells (m.mc jks) 33), (4, o4)] [], []⟩, True) := by kernel_rfl
theorem r11B2 (o0 o2 : AObj) (p d : Int) (a1 : Option Addr) (n1 : Nat) (c1 : Nat) (n2 : Nat) (a3 : Option Addr) (n3 : Nat) (c3 : Nat) (b : Value) (cs cs0 : List Value) (l : Sr) (f : Nat → Int) (n i : Nat) : (ex3 Tryz.prog pCall (oo11c l f) 60 (codeOf Tryz.f11 [1,1,1,0,1,0,0,1]) ⟨⟨mkT 101 [(1, pt 3), (3, sl 4 n), (5, i64 i), (46, b)] jX, mkH 5 [(0, o0), (1, .ro cs0), (2, o2), (3, .cells (mcs p d a1 n1 c1 (some ⟨1, 0, none⟩) n2 capG a3 n3 c3 jks) 33), (4, .grow cs 26)] [], []⟩, True⟩).map (obs3 [1,3,5] [0,1,2,3,8])
  = some (⟨0, [pt 3, sl 8 (n + 1), i64 (IntKind.i64.wrap ((i : Int) + 1))], 101, 9, [o0, .ro cs0, o2, .cells (mcs p d a1 n1 c1 (some ⟨1, 0, none⟩) n2 capG a3 n3 c3 jks) 33, .grow (cs.take (n * (31 + 1)) ++ bytes (dgf f)) 26], []⟩,
    AppC 32 31 32 26 26 0 capG n 1 0 cs (bytes (dgf f)) ∧ SumC f 403 (bytes (vints [l.t, l.s])) 0 (vints [l.t, l.s]).length ∧ True ∧ LdC Tryz.prog 3 (some cs0) (0 + i * 2 + 1) (i64 l.s) ∧ ((0 : Int) ≤ (i : Int) ∧ (i : Int) < (n2 : Int)) ∧ LdC Tryz.prog 3 (some cs0) (0 + i * 2 + 0) (i64 l.t) ∧ ((0 : Int) ≤ (i : Int) ∧ (i : Int) < (n2 : Int)) ∧ True) := by kernel_rfl

theorem rd2 {Q : APost} {o0 o1 o2 : AObj} {m : Mf} {ls : List Ln} {ss : List Sr} {xs : List Ct} (h : m.ok o0 o1 o2 ls ss xs) (ds : List (List Int)) (hds : ∀ d ∈ ds, d.length = 32) (hbd : ds.length ≤ 1000000) (i k : Nat) (hk : i + (k + 1) = ss.length) (b : Value)
    (hQ : ∀ T H D l, ss[i]? = some l → Nrm Tryz.prog 3 T H D (mkT 101 [(1, pt 3), (3, sl 4 (ds.length + 1)), (5, i64 ((i + 1 : Nat) : Int))] jX) (H11 o0 o1 o2 (.cells (m.mc jks) 33) (ds ++ [l.leaf])) [] → Q .normal T H D) :
    Awn Tryz.prog 3 (codeOf Tryz.f11 [1,1,1,0,1,0,0,1]) Q (mkT 101 [(1, pt 3), (3, sl 4 ds.length), (5, i64 i), (46, b)] jX) (H11 o0 o1 o2 (.cells (m.mc jks) 33) ds) [] := by
  have hn := h.s.n
  have hbl := h.bs
  obtain ⟨ha, hcp, ho⟩ := h.s.pos (by omega)
  have hi : ss[i]? = some ss[i] := List.getElem?_eq_getElem (by omega)
  obtain ⟨hp1, hp2⟩ := flat_part Sr.cells 2 ss (fun x _ => x.len) i _ hi
  have hz : 0 + i * 2 = i * 2 := by omega
  generalize hl : ss[i] = l at *
  obtain ⟨f, hf, hfl⟩ := sum_ok2 l
  have hc : ∀ v ∈ ss.flatMap Sr.cells, c2 v = true := fun v hv => by
    obtain ⟨x, _, hx⟩ := List.mem_flatMap.1 hv
    exact x.cc2 v hx
  have hw := wrap_i1 (i := i) (by omega)
  have hr := r11B2 o0 o2 m.p m.d m.a1 m.n1 m.c1 m.n2 m.a3 m.n3 m.c3 b (flatD ds) (ss.flatMap Sr.cells) l f ds.length i
  have hmc : mcs m.p m.d m.a1 m.n1 m.c1 (some ⟨1, 0, none⟩) m.n2 capG m.a3 m.n3 m.c3 jks = m.mc jks := by rw [Mf.mc, ha, hcp]
  rw [hw, take_flatD hds, hfl, hmc] at hr
  rw [show H11 o0 o1 o2 (.cells (m.mc jks) 33) ds = mkH 5 [(0, o0), (1, .ro (ss.flatMap Sr.cells)), (2, o2), (3, .cells (m.mc jks) 33), (4, .grow (flatD ds) 26)] [] by rw [H11, ho]; rfl]
  have hfd := appD (f := f) hds hbd
  rw [hfl] at hfd
  refine pieceE hm pCall_sound (oo11c_sound l f) hr ⟨hfd, hf, trivial, ldC_one (sr_at hp1).2, ⟨by omega, by omega⟩, ldC_one (sr_at hp1).1, ⟨by omega, by omega⟩, trivial⟩ rfl 5 [(3, 3), (4, 8)]
    (os2 := [(0, o0), (1, o1), (2, o2), (3, .cells (m.mc jks) 33), (4, grD (ds ++ [l.leaf]))]) rfl ?_ .nil (fun T H D hN => hQ T H D l hi hN)
  rw [ho]
  exact (.cons ⟨rfl, h.l.ro⟩ (.cons ⟨rfl, .ro (RV.all hc)⟩ (.cons ⟨rfl, h.x.ro⟩ (.cons ⟨rfl, .cells (Mf.rv h rfl rfl rfl)⟩ (.cons ⟨rfl, RO.grD⟩ .nil)))))


theorem lw2 {Q : APost} {o0 o1 o2 : AObj} {m : Mf} {ls : List Ln} {ss : List Sr} {xs : List Ct} (h : m.ok o0 o1 o2 ls ss xs) (ds : List (List Int)) (hds : ∀ d ∈ ds, d.length = 32) (hbd : ds.length ≤ 500000)
    (hQ : ∀ T H D, Nrm Tryz.prog 3 T H D (T11 (ds ++ ss.map Sr.leaf).length) (H11 o0 o1 o2 (.cells (m.mc jks) 33) (ds ++ ss.map Sr.leaf)) [] → Q .normal T H D) : Awn Tryz.prog 3 (codeOf Tryz.f11 [1,1,1,0]) Q (T11 ds.length) (H11 o0 o1 o2 (.cells (m.mc jks) 33) ds) [] := by
  refine pieceT hm pCall_sound noOO_sound 0 (r11R2 _ _) rfl trivial rfl ?_
  refine awn_block (c := codeOf Tryz.f11 [1,1,1,0,1,0]) (awn_loop (c := codeOf Tryz.f11 [1,1,1,0,1,0,0])
    (fun k T H D => ∃ i, i + k = ss.length ∧ T = mkT 101 [(1, pt 3), (3, sl 4 (ds ++ (ss.take i).map Sr.leaf).length), (5, i64 i)] jX ∧ H = H11 o0 o1 o2 (.cells (m.mc jks) 33) (ds ++ (ss.take i).map Sr.leaf) ∧ D = [])
    ss.length ⟨_, _, _, .refl _ _ _ _ _, 0, by omega, by simp, by simp [H11, grD], rfl⟩ ?_)
  rintro k T H D ⟨i, hk, rfl, rfl, rfl⟩
  have hn := h.s.n
  have hbl := h.bs
  have hds : ∀ d ∈ ds ++ (ss.take i).map Sr.leaf, d.length = 32 := fun d hd => by
    rcases List.mem_append.1 hd with hd | hd
    · exact hds d hd
    · obtain ⟨l, _, rfl⟩ := List.mem_map.1 hd; exact sumS_len _ _
  have hbd : (ds ++ (ss.take i).map Sr.leaf).length ≤ 1000000 := by simp; omega
  refine awn_seq (x := codeOf Tryz.f11 [1,1,1,0,1,0,0,0]) (y := codeOf Tryz.f11 [1,1,1,0,1,0,0,1]) ?_
  refine pieceT hm pCall_sound noOO_sound 0 (r11H2 o0 o1 o2 _ m _ i) rfl trivial rfl ?_
  refine awn_cond (c := .tmp 46) (b := decide ((i : Int) < (m.n2 : Int))) rfl rfl ?_
  cases k with
  | zero =>
    rw [decide_eq_false (by omega)]
    refine awn_exit (hQ _ _ _ ?_)
    have : ss.take i = ss := List.take_of_length_le (by omega)
    rw [show ds ++ ss.map Sr.leaf = ds ++ (ss.take i).map Sr.leaf by rw [this]]
    exact nrm_drop 2
  | succ k =>
    rw [decide_eq_true (by omega)]
    refine awn_skip ?_
    refine rd2 h _ hds hbd i k hk _ ?_
    intro T H D l hi hN
    have htk : ds ++ (ss.take i).map Sr.leaf ++ [l.leaf] = ds ++ (ss.take (i + 1)).map Sr.leaf := by
      rw [List.take_add_one, hi]; simp
    have hlen : (ds ++ (ss.take i).map Sr.leaf).length + 1 = (ds ++ (ss.take (i + 1)).map Sr.leaf).length := by rw [← htk]; exact (snoc_len _ _).symm
    rw [htk, hlen] at hN
    exact ⟨k, by omega, _, _, _, hN, i + 1, by omega, rfl, rfl, rfl⟩


theorem r11R3 (v : Value) (H : Heap) : (ex3 Tryz.prog pCall noOO 60 (pre 0 (codeOf Tryz.f11 [1,1,1,1,0])) ⟨⟨mkT 101 [(1, pt 3), (3, v)] jX, H, []⟩, True⟩).map (obsQ [1,3,6])
  = some (⟨0, [pt 3, v, i64 ((0 : Nat) : Int)], 101, H, []⟩, True) := by kernel_rfl
theorem r11H3 (o0 o1 o2 o4 : AObj) (m : Mf) (v : Value) (i : Nat) : (ex3 Tryz.prog pCall noOO 60 (pre 0 (codeOf Tryz.f11 [1,1,1,1,0,1,0,0,0])) ⟨⟨mkT 101 [(1, pt 3), (3, v), (6, i64 i)] jX, mkH 5 [(0, o0), (1, o1), (2, o2), (3, .cells (m.mc jks) 33), (4, o4)] [], []⟩, True⟩).map (obsQ [1,3,6,71])
  = some (⟨0, [pt 3, v, i64 i, .bool (decide ((i : Int) < (m.n3 : Int)))], 101, mkH 5 [(0, o0), (1, o1), (2, o2), (3, .cells (m.mc jks) 33), (4, o4)] [], []⟩, True) := by kernel_rfl
theorem r11B3 (o0 o1 : AObj) (p d : Int) (a1 : Option Addr) (n1 : Nat) (c1 : Nat) (a2 : Option Addr) (n2 : Nat) (c2 : Nat) (n3 : Nat) (b : Value) (cs cs0 : List Value) (l : Ct) (f : Nat → Int) (n i : Nat) : (ex3 Tryz.prog pCall (oo11d l f) 60 (codeOf Tryz.f11 [1,1,1,1,0,1,0,0,1]) ⟨⟨mkT 101 [(1, pt 3), (3, sl 4 n), (6, i64 i), (71, b)] jX, mkH 5 [(0, o0), (1, o1), (2, .ro cs0), (3, .cells (mcs p d a1 n1 c1 a2 n2 c2 (some ⟨2, 0, none⟩) n3 capG jks) 33), (4, .grow cs 26)] [], []⟩, True⟩).map (obs3 [1,3,6] [0,1,2,3,13])
  = some (⟨0, [pt 3, sl 13 (n + 1), i64 (IntKind.i64.wrap ((i : Int) + 1))], 101, 14, [o0, o1, .ro cs0, .cells (mcs p d a1 n1 c1 a2 n2 c2 (some ⟨2, 0, none⟩) n3 capG jks) 33, .grow (cs.take (n * (31 + 1)) ++ bytes (dgf f)) 26], []⟩,
    AppC 32 31 32 26 26 0 capG n 1 0 cs (bytes (dgf f)) ∧ SumC f 404 (ctB l) 0 (l.nums.length + 32 + 32) ∧ AppC 1 0 1 5 5 0 capG (l.nums.length + 32) 32 0 (ctA l) (bytes (dgf l.a)) ∧ BytC (bytes (dgf l.a)) ∧ AppC 1 0 1 5 5 0 capG l.nums.length 32 0 (bytes l.nums) (bytes (dgf l.b)) ∧ BytC (bytes (dgf l.b)) ∧ some (dig (dgf l.b)) = some (dig (dgf l.b)) ∧ some (dig (dgf l.b)) = some (dig (dgf l.b)) ∧ True ∧ LdC Tryz.prog 106 (some cs0) (0 + i * 66) (.agg l.cells.toArray) ∧ ((0 : Int) ≤ (i : Int) ∧ (i : Int) < (n3 : Int)) ∧ True) := by kernel_rfl

theorem rd3 {Q : APost} {o0 o1 o2 : AObj} {m : Mf} {ls : List Ln} {ss : List Sr} {xs : List Ct} (h : m.ok o0 o1 o2 ls ss xs) (ds : List (List Int)) (hds : ∀ d ∈ ds, d.length = 32) (hbd : ds.length ≤ 1000000) (i k : Nat) (hk : i + (k + 1) = xs.length) (b : Value)
    (hQ : ∀ T H D l, xs[i]? = some l → Nrm Tryz.prog 3 T H D (mkT 101 [(1, pt 3), (3, sl 4 (ds.length + 1)), (6, i64 ((i + 1 : Nat) : Int))] jX) (H11 o0 o1 o2 (.cells (m.mc jks) 33) (ds ++ [l.leaf])) [] → Q .normal T H D) :
    Awn Tryz.prog 3 (codeOf Tryz.f11 [1,1,1,1,0,1,0,0,1]) Q (mkT 101 [(1, pt 3), (3, sl 4 ds.length), (6, i64 i), (71, b)] jX) (H11 o0 o1 o2 (.cells (m.mc jks) 33) ds) [] := by
  have hn := h.x.n
  have hbl := h.bx
  obtain ⟨ha, hcp, ho⟩ := h.x.pos (by omega)
  have hi : xs[i]? = some xs[i] := List.getElem?_eq_getElem (by omega)
  obtain ⟨hp1, hp2⟩ := flat_part Ct.cells 66 xs (fun x _ => x.len) i _ hi
  have hz : 0 + i * 66 = i * 66 := by omega
  generalize hl : xs[i] = l at *
  obtain ⟨f, hf, hfl⟩ := sum_ok3 l
  have hc : ∀ v ∈ xs.flatMap Ct.cells, c2 v = true := fun v hv => by
    obtain ⟨x, _, hx⟩ := List.mem_flatMap.1 hv
    exact x.cc2 v hx
  have hw := wrap_i1 (i := i) (by omega)
  have hr := r11B3 o0 o1 m.p m.d m.a1 m.n1 m.c1 m.a2 m.n2 m.c2 m.n3 b (flatD ds) (xs.flatMap Ct.cells) l f ds.length i
  have hmc : mcs m.p m.d m.a1 m.n1 m.c1 m.a2 m.n2 m.c2 (some ⟨2, 0, none⟩) m.n3 capG jks = m.mc jks := by rw [Mf.mc, ha, hcp]
  rw [hw, hz, take_flatD hds, hfl, hmc] at hr
  rw [show H11 o0 o1 o2 (.cells (m.mc jks) 33) ds = mkH 5 [(0, o0), (1, o1), (2, .ro (xs.flatMap Ct.cells)), (3, .cells (m.mc jks) 33), (4, .grow (flatD ds) 26)] [] by rw [H11, ho]; rfl]
  have hfd := appD (f := f) hds hbd
  rw [hfl] at hfd
  refine pieceE hm pCall_sound (oo11d_sound l f) hr ⟨hfd, hf, ct_app4 l, byt_ok _, ct_app3 l, byt_ok _, rfl, rfl, trivial, ldC_agg agg106 siz106 hp2 hp1, ⟨by omega, by omega⟩, trivial⟩ rfl 5 [(3, 3), (4, 13)]
    (os2 := [(0, o0), (1, o1), (2, o2), (3, .cells (m.mc jks) 33), (4, grD (ds ++ [l.leaf]))]) rfl ?_ .nil (fun T H D hN => hQ T H D l hi hN)
  rw [ho]
  exact (.cons ⟨rfl, h.l.ro⟩ (.cons ⟨rfl, h.s.ro⟩ (.cons ⟨rfl, .ro (RV.all hc)⟩ (.cons ⟨rfl, .cells (Mf.rv h rfl rfl rfl)⟩ (.cons ⟨rfl, RO.grD⟩ .nil)))))


theorem lw3 {Q : APost} {o0 o1 o2 : AObj} {m : Mf} {ls : List Ln} {ss : List Sr} {xs : List Ct} (h : m.ok o0 o1 o2 ls ss xs) (ds : List (List Int)) (hds : ∀ d ∈ ds, d.length = 32) (hbd : ds.length ≤ 500000)
    (hQ : ∀ T H D, Nrm Tryz.prog 3 T H D (T11 (ds ++ xs.map Ct.leaf).length) (H11 o0 o1 o2 (.cells (m.mc jks) 33) (ds ++ xs.map Ct.leaf)) [] → Q .normal T H D) : Awn Tryz.prog 3 (codeOf Tryz.f11 [1,1,1,1,0]) Q (T11 ds.length) (H11 o0 o1 o2 (.cells (m.mc jks) 33) ds) [] := by
  refine pieceT hm pCall_sound noOO_sound 0 (r11R3 _ _) rfl trivial rfl ?_
  refine awn_block (c := codeOf Tryz.f11 [1,1,1,1,0,1,0]) (awn_loop (c := codeOf Tryz.f11 [1,1,1,1,0,1,0,0])
    (fun k T H D => ∃ i, i + k = xs.length ∧ T = mkT 101 [(1, pt 3), (3, sl 4 (ds ++ (xs.take i).map Ct.leaf).length), (6, i64 i)] jX ∧ H = H11 o0 o1 o2 (.cells (m.mc jks) 33) (ds ++ (xs.take i).map Ct.leaf) ∧ D = [])
    xs.length ⟨_, _, _, .refl _ _ _ _ _, 0, by omega, by simp, by simp [H11, grD], rfl⟩ ?_)
  rintro k T H D ⟨i, hk, rfl, rfl, rfl⟩
  have hn := h.x.n
  have hbl := h.bx
  have hds : ∀ d ∈ ds ++ (xs.take i).map Ct.leaf, d.length = 32 := fun d hd => by
    rcases List.mem_append.1 hd with hd | hd
    · exact hds d hd
    · obtain ⟨l, _, rfl⟩ := List.mem_map.1 hd; exact sumS_len _ _
  have hbd : (ds ++ (xs.take i).map Ct.leaf).length ≤ 1000000 := by simp; omega
  refine awn_seq (x := codeOf Tryz.f11 [1,1,1,1,0,1,0,0,0]) (y := codeOf Tryz.f11 [1,1,1,1,0,1,0,0,1]) ?_
  refine pieceT hm pCall_sound noOO_sound 0 (r11H3 o0 o1 o2 _ m _ i) rfl trivial rfl ?_
  refine awn_cond (c := .tmp 71) (b := decide ((i : Int) < (m.n3 : Int))) rfl rfl ?_
  cases k with
  | zero =>
    rw [decide_eq_false (by omega)]
    refine awn_exit (hQ _ _ _ ?_)
    have : xs.take i = xs := List.take_of_length_le (by omega)
    rw [show ds ++ xs.map Ct.leaf = ds ++ (xs.take i).map Ct.leaf by rw [this]]
    exact nrm_drop 2
  | succ k =>
    rw [decide_eq_true (by omega)]
    refine awn_skip ?_
    refine rd3 h _ hds hbd i k hk _ ?_
    intro T H D l hi hN
    have htk : ds ++ (xs.take i).map Ct.leaf ++ [l.leaf] = ds ++ (xs.take (i + 1)).map Ct.leaf := by
      rw [List.take_add_one, hi]; simp
    have hlen : (ds ++ (xs.take i).map Ct.leaf).length + 1 = (ds ++ (xs.take (i + 1)).map Ct.leaf).length := by rw [← htk]; exact (snoc_len _ _).symm
    rw [htk, hlen] at hN
    exact ⟨k, by omega, _, _, _, hN, i + 1, by omega, rfl, rfl, rfl⟩


end Go.Abs

namespace Go.Abs
open Go.Proofs
set_option maxRecDepth 100000

/-- A slice in some heap that is nil or a row of closed values. -/
def SLH (H : Heap) (a : Option Addr) (n c : Nat) (k : Nat) (cs : List Value) : Prop :=
  ((a = none ∨ a = some ⟨0, 0, some 1⟩) ∧ n = 0 ∧ c = 0 ∧ k = 0) ∨ (∃ id off row, a = some ⟨id, off, none⟩ ∧ n = k ∧ H.row id = some row ∧ (row.drop off).take cs.length = cs ∧ off + cs.length ≤ row.length ∧ ∀ v ∈ cs, c2 v = true)

theorem slh_sl {H : Heap} {a : Option Addr} {n c k : Nat} {cs : List Value} (h : SLH H a n c k cs) (j : Nat) : ∃ a0 c0 o sj, SL j a0 n c0 o k cs ∧ (∀ s : Part, s j = sj → RI s (.slice a n c) (.slice a0 n c0)) ∧
    (∀ s : Part, s j = sj → (o = .dead ∨ ∃ i off c' row ws ws1, s j = some (i, off, c') ∧ H.row i = some row ∧ o = .ro ws ∧ (row.drop off).take ws.length = ws1 ∧ F2 (RI s) ws1 ws ∧ off + ws.length ≤ row.length)) := by
  rcases h with ⟨rfl | rfl, rfl, rfl, rfl⟩ | ⟨id, off, row, rfl, rfl, hr, h1, h2, h3⟩
  · exact ⟨none, 0, .dead, none, .inl ⟨.inl rfl, rfl, rfl, rfl, rfl⟩, fun s _ => .closed rfl, fun s _ => .inl rfl⟩
  · refine ⟨some ⟨0, 0, some 1⟩, 0, .dead, none, .inl ⟨.inr rfl, rfl, rfl, rfl, rfl⟩, fun s _ E u hu => ?_, fun s _ => .inl rfl⟩
    cases hu with
    | anonE a c => exact .anonE a c
  · exact ⟨some ⟨j, 0, none⟩, capG, .ro cs, some (id, off, c), .inr ⟨rfl, rfl, rfl, rfl, h3⟩, fun s hs => .slice hs, fun s hs => .inr ⟨id, off, c, row, cs, cs, hs, hr, rfl, h1, RI.all h3, h2⟩⟩

theorem ri_jks {s : Part} : ∀ {l : List Value} {n : Nat}, l.length = n → F2 (RI s) l (List.replicate n jk)
  | [], 0, _ => .nil
  | _ :: l, n + 1, h => .cons .junk (ri_jks (by simpa using h))
  | [], n + 1, h => by simp at h
  | _ :: _, 0, h => by simp at h

structure LvC (m : Mf) (ls : List Ln) (ss : List Sr) (xs : List Ct) (H : Heap) (v : Value) : Prop where
  v : ∃ rest : List Value, rest.length = 37 ∧ v = .agg (m.mc rest).toArray
  l : SLH H m.a1 m.n1 m.c1 ls.length (ls.flatMap Ln.cells)
  s : SLH H m.a2 m.n2 m.c2 ss.length (ss.flatMap Sr.cells)
  x : SLH H m.a3 m.n3 m.c3 xs.length (xs.flatMap Ct.cells)
  bl : ls.length ≤ 100000
  bs : ss.length ≤ 100000
  bx : xs.length ≤ 100000

theorem lv_imp {m : Mf} {ls : List Ln} {ss : List Sr} {xs : List Ct} {H : Heap} {v : Value} (h : LvC m ls ss xs H v) : ∃ (m0 : Mf) (o0 o1 o2 : AObj), m0.ok o0 o1 o2 ls ss xs ∧ leaves m0 ls ss xs = leaves m ls ss xs ∧ Imp Tryz.prog [v] H [.agg (m0.mc jks).toArray] ⟨3, [(0, o0), (1, o1), (2, o2)]⟩ := by
  obtain ⟨rest, hrest, rfl⟩ := h.v
  obtain ⟨a1, c1, o0, s0, h1, r1, q1⟩ := slh_sl h.l 0
  obtain ⟨a2, c2, o1, s1, h2, r2, q2⟩ := slh_sl h.s 1
  obtain ⟨a3, c3, o2, s2, h3, r3, q3⟩ := slh_sl h.x 2
  refine ⟨⟨m.p, m.d, a1, m.n1, c1, a2, m.n2, c2, a3, m.n3, c3⟩, o0, o1, o2, ⟨h1, h2, h3, h.bl, h.bs, h.bx⟩, rfl, ?_⟩
  generalize hS : (fun j => if j = 0 then s0 else if j = 1 then s1 else if j = 2 then s2 else none : Part) = S
  have e0 : S 0 = s0 := by rw [← hS]; rfl
  have e1 : S 1 = s1 := by rw [← hS]; rfl
  have e2 : S 2 = s2 := by rw [← hS]; rfl
  refine imp_gen S (fun j x hj => ?_) (.cons (RI.agg ?_) .nil) (fun p hp => ?_)
  · rw [← hS] at hj
    by_cases e0 : j = 0
    · omega
    · by_cases e1 : j = 1
      · omega
      · by_cases e2 : j = 2
        · omega
        · simp [e0, e1, e2] at hj
  · exact .cons (.closed rfl) (.cons (.closed rfl) (.cons (r1 _ e0) (.cons (r2 _ e1) (.cons (r3 _ e2) (ri_jks hrest)))))
  · rcases List.mem_cons.1 hp with rfl | hp
    · exact q1 S e0
    · rcases List.mem_cons.1 hp with rfl | hp
      · exact q2 S e1
      · cases List.mem_singleton.1 hp
        exact q3 S e2

/-- An operation whose outcome is said beforehand. -/
def forceO (P : Program) (d : Nat) (v : Value) : OpO := fun o ρ H => match o.dst with
  | some d' => bif Nat.beq d' d then (bif isRead o.op then none else some (.pure v (evR P ρ H o = some v))) else none
  | none => none
theorem forceO_sound {P : Program} {d : Nat} {v : Value} : SoundO P (forceO P d v) := by
  have key : ∀ o ρ H r, forceO P d v o ρ H = some r → ∃ c, r = .pure v c ∧ (c → SPure P o ρ v) := by
    intro o ρ H r h
    unfold forceO at h
    split at h
    case h_2 => cases h
    obtain ⟨_, h⟩ := cond_opt h
    cases hb : isRead o.op with
    | true => rw [hb] at h; cases h
    | false =>
      rw [hb] at h
      cases h
      exact ⟨_, rfl, fun hc H2 => .of_ev (by rw [evR_noheap hb H2 H]; exact hc)⟩
  refine ⟨fun o ρ H v ob c h => ?_, fun o ρ H v c h => ?_, fun o ρ H v c h => ?_, fun o ρ H v c h => ?_, fun o ρ H v H' c h => ?_⟩
  · obtain ⟨_, h, k⟩ := key _ _ _ _ h; cases h
  · obtain ⟨_, h, k⟩ := key _ _ _ _ h; cases h
  · obtain ⟨_, h, k⟩ := key _ _ _ _ h; cases h; exact k
  · obtain ⟨_, h, k⟩ := key _ _ _ _ h; cases h
  · obtain ⟨_, h, k⟩ := key _ _ _ _ h; cases h
end Go.Abs

namespace Go.Abs
open Go.Proofs
set_option maxRecDepth 100000

theorem und26 : Tryz.prog.underlying 26 = some (.array 32 5) := by kernel_rfl
theorem und5 : Tryz.prog.underlying 5 = some (.int .u8) := by kernel_rfl
theorem guard26 : Tryz.prog.eqGuardType Tryz.prog.depth 26 = false := by kernel_rfl
theorem info5 : ∃ i, Tryz.prog.info? 5 = some i := by
  cases h : Tryz.prog.info? 5 with
  | some i => exact ⟨i, rfl⟩
  | none =>
    have : (Tryz.prog.info? 5).isSome = true := by kernel_rfl
    rw [h] at this; cases this
theorem cells5 : Tryz.prog.cellsOf 5 = 1 := by kernel_rfl
theorem agg5 : isAggT Tryz.prog 5 = some false := by kernel_rfl

theorem eqItems_same (w : World) (d : Nat) (xs : Array Value) (hx : ∀ v ∈ xs.toList, isU8 v = true) : ∀ is : List Nat, (∀ i ∈ is, i < xs.size) → (Op.eqItems (d + 1) 5 1 xs xs is).run Tryz.prog w = .ok true w
  | [], _ => by simp [Op.eqItems]
  | i :: is, h => by
    have hi := h i (List.mem_cons_self ..)
    have ih := eqItems_same w d xs hx is fun j hj => h j (List.mem_cons_of_mem _ hj)
    have hm : isU8 xs[i] = true := hx _ (by rw [Array.mem_toList_iff]; exact Array.getElem_mem hi)
    have hp : (Go.part 5 xs (i * 1)).run Tryz.prog w = .ok xs[i] w := by
      rw [Nat.mul_one]
      simp [Go.part, run_isAgg agg5, Array.getElem?_eq_getElem hi]
    cases hv : xs[i] with
    | int k b =>
      have he := run_equalIn_int (P := Tryz.prog) w d 5 k .u8 b b und5
      rw [hv] at hp
      simp only [Op.eqItems, Sem.run_bind, hp, Result.andThen_ok, he, beq_self_eq_true, Bool.not_true, Bool.false_eq_true, if_false]
      exact ih
    | _ => rw [hv] at hm; cases hm

theorem equal_same (w : World) (xs : Array Value) (hs : xs.size = 32) (hx : ∀ v ∈ xs.toList, isU8 v = true) : (Op.equalIn 10000 26 (.agg xs) (.agg xs)).run Tryz.prog w = .ok true w := by
  obtain ⟨i, hi⟩ := info5
  rw [show 10000 = 9999 + 1 from rfl, run_equalIn_array w 9999 xs xs und26 hi, cells5]
  exact eqItems_same w 9998 xs hx _ fun j hj => by rw [hs]; exact List.mem_range.1 hj

def NeqC (vs ws : Array Value) : Prop := vs = ws ∧ vs.size = 32 ∧ ∀ v ∈ vs.toList, isU8 v = true
/-- Digests that are equal are not unequal. -/
def neqO (d : Nat) : OpO := fun o ρ _ => match o.dst with
  | some d' => bif Nat.beq d' d then (match o.op with
    | .binOp .neq t x y _ => match ρ x, ρ y with
      | .agg vs, .agg ws => bif Nat.beq t 26 then some (.pure (.bool false) (NeqC vs ws)) else none
      | _, _ => none
    | _ => none) else none
  | none => none

theorem neqO_sound {d : Nat} : SoundO Tryz.prog (neqO d) := by
  have key : ∀ o ρ H r, neqO d o ρ H = some r → ∃ v c, r = .pure v c ∧ (c → SPure Tryz.prog o ρ v) := by
    intro o ρ H r h
    unfold neqO at h
    split at h
    case h_2 => cases h
    obtain ⟨_, h⟩ := cond_opt h
    split at h
    case h_2 => cases h
    rename_i t x y yt ho
    split at h
    case h_2 => cases h
    rename_i vs ws hvx hvy
    obtain ⟨ht, h⟩ := cond_opt h
    have ht := beqN ht
    subst ht
    cases h
    refine ⟨_, _, rfl, fun ⟨h1, h2, h3⟩ H2 => .of_Q fun B E a w hH hr => ?_⟩
    subst h1
    have hc : c2 (.agg vs) = true := by
      simp only [c2, c1, Array.all_eq_true']
      intro v hv
      have := h3 v (by rw [Array.mem_toList_iff]; exact hv)
      cases v <;> first | rfl | cases this
    have ex := eq_of_c2 (hvx ▸ hr x (by simp [ho, Op.operands])) hc
    have ey := eq_of_c2 (hvy ▸ hr y (by simp [ho, Op.operands])) hc
    obtain ⟨dst, op, type, pos, after, guard⟩ := o
    simp only at ho
    subst ho
    refine ⟨.bool false, ?_, .bool false⟩
    have hg := run_eqGuard_agg (P := Tryz.prog) w .neq 26 x y vs vs guard26
    have hq := run_neq_struct (P := Tryz.prog) w 26 vs vs
    rw [equal_same w vs h2 h3] at hq
    simp only [execOp, ex, ey, Sem.run_bind, hg, Result.andThen_ok, hq]
    rfl
  refine ⟨fun o ρ H v ob c h => ?_, fun o ρ H v c h => ?_, fun o ρ H v c h => ?_, fun o ρ H v c h => ?_, fun o ρ H v H' c h => ?_⟩
  · obtain ⟨_, _, h, k⟩ := key _ _ _ _ h; cases h
  · obtain ⟨_, _, h, k⟩ := key _ _ _ _ h; cases h
  · obtain ⟨_, _, h, k⟩ := key _ _ _ _ h; cases h; exact k
  · obtain ⟨_, _, h, k⟩ := key _ _ _ _ h; cases h
  · obtain ⟨_, _, h, k⟩ := key _ _ _ _ h; cases h

end Go.Abs

