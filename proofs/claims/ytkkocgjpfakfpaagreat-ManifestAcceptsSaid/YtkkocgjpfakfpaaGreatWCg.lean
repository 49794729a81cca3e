/- For every manifest, seed and index the statements ManifestSigns and ManifestAccepts of law 40 hold, with no condition. -/
import Derived.Test.YtkkocgjpfakfpaaGreatWCf
import Derived.Test.YtkkocgjpfakfpaaGreatWBa
set_option linter.unusedSimpArgs false
set_option linter.unusedVariables false
namespace Go.Abs
open Go.Proofs
set_option maxRecDepth 1000000

/-- Digests of known bytes. -/
def sumO : CallF := fun f args H => match args with
  | [.int .u64 d, .slice (some ⟨id, off, none⟩) n _] => bif Nat.beq f 31 || Nat.beq f 33 then (match H.row id with
    | some cs => bif Nat.ble (off + n) cs.length && Nat.ble n 1000000 then (match u8s ((cs.drop off).take n) with
      | some bs => some (dig (sumS d bs), none)
      | none => none) else none
    | none => none) else none
  | _ => none
theorem sumO_sound : ∀ f args H v h, sumO f args H = some (v, h) → Does Tryz.prog f args H v (h.getD H) := by
  intro f args H v h hr
  unfold sumO at hr
  split at hr
  case h_2 => cases hr
  rename_i d id off n c
  obtain ⟨hf, hx⟩ := cond_opt hr
  clear hr
  split at hx
  case h_2 => cases hx
  rename_i cs hrow
  obtain ⟨hb, hx⟩ := cond_opt hx
  simp only [Bool.and_eq_true] at hb
  split at hx
  case h_2 => cases hx
  rename_i bs hbs
  cases hx
  have h1 := bleN hb.1
  have h2 := bleN hb.2
  have e := u8s_eq hbs
  have hu : ∀ v ∈ (cs.drop off).take n, isU8 v = true := by rw [e]; exact bytes_u8
  have hs : ∀ k, SoundC Tryz.prog (oneC k sumG) → Does Tryz.prog k [.int .u64 d, .slice (some ⟨id, off, none⟩) n c] H (dig (sumS d bs)) H := by
    intro k hk
    have := hk.same k [.int .u64 d, .slice (some ⟨id, off, none⟩) n c] H (dig (sumS d (unb ((cs.drop off).take n)))) (off + n ≤ cs.length ∧ n ≤ 1000000 ∧ ∀ v ∈ (cs.drop off).take n, isU8 v = true) (by simp only [oneC, Nat.beq_refl, cond_true, sumG, hrow]) ⟨h1, h2, hu⟩
    rw [e, unb_bytes] at this
    exact this
  simp only [Bool.or_eq_true] at hf
  rcases hf with hf | hf
  · have := beqN hf; subst this; exact hs 31 sumG31_sound
  · have := beqN hf; subst this; exact hs 33 sumG33_sound
end Go.Abs

namespace Go.Abs
open Go.Proofs
set_option maxRecDepth 100000

/-- A whole manifest. -/
structure Mg extends Mf where
  rt : Nat → Int
  si : Int
  a4 : Option Addr
  n4 : Nat
  c4 : Nat
  pi : Int
  pc : Int
  a5 : Option Addr
  n5 : Nat
  c5 : Nat
def Mg.rest (m : Mg) : List Value := bytes (dgf m.rt) ++ [i64 m.si, .slice m.a4 m.n4 m.c4, i64 m.pi, i64 m.pc, .slice m.a5 m.n5 m.c5]
def Mg.all (m : Mg) : List Value := m.mc m.rest
theorem Mg.rest_len (m : Mg) : m.rest.length = 37 := by simp [Mg.rest, bytes_len, dgf_len]
def SN (j : Nat) (a : Option Addr) (n c : Nat) : Prop := ((a = none ∨ a = some ⟨0, 0, some 1⟩) ∧ n = 0 ∧ c = 0) ∨ (a = some ⟨j, 0, none⟩ ∧ c = capG)
theorem SN.rv {σ : Nat → Option Nat} {i j n c : Nat} {a : Option Addr} (h : SN i a n c) (hj : σ i = some i) : RV σ (.slice a n c) (.slice a n c) := by
  rcases h with ⟨rfl | rfl, rfl, rfl⟩ | ⟨rfl, rfl⟩
  · exact .closed rfl
  · exact .anonE
  · exact .slice hj
structure Mg.ok (m : Mg) (o0 o1 o2 : AObj) (ls : List Ln) (ss : List Sr) (xs : List Ct) : Prop where
  f : m.toMf.ok o0 o1 o2 ls ss xs
  p : SN 3 m.a4 m.n4 m.c4
  q : SN 4 m.a5 m.n5 m.c5
theorem F2.append2 {σ : Nat → Option Nat} {a b c d : List Value} (h : F2 (RV σ) a b) (h' : F2 (RV σ) c d) : F2 (RV σ) (a ++ c) (b ++ d) := by
  induction h with
  | nil => exact h'
  | cons hab _ ih => exact .cons hab ih
theorem Mg.rvR {σ : Nat → Option Nat} {m : Mg} {o0 o1 o2 : AObj} {ls : List Ln} {ss : List Sr} {xs : List Ct} (h : m.ok o0 o1 o2 ls ss xs) (h3 : σ 3 = some 3) (h4 : σ 4 = some 4) : F2 (RV σ) m.rest m.rest :=
  F2.append2 (RV.all bytes_c2) (.cons (.closed rfl) (.cons (h.p.rv (j := 3) h3) (.cons (.closed rfl) (.cons (.closed rfl) (.cons (h.q.rv (j := 4) h4) .nil)))))
theorem Mg.rv {σ : Nat → Option Nat} {m : Mg} {o0 o1 o2 : AObj} {ls : List Ln} {ss : List Sr} {xs : List Ct} (h : m.ok o0 o1 o2 ls ss xs) (h0 : σ 0 = some 0) (h1 : σ 1 = some 1) (h2 : σ 2 = some 2) (h3 : σ 3 = some 3) (h4 : σ 4 = some 4) : F2 (RV σ) m.all m.all :=
  .cons (.closed rfl) (.cons (.closed rfl) (.cons (h.f.l.rv h0) (.cons (h.f.s.rv h1) (.cons (h.f.x.rv h2) (Mg.rvR h h3 h4)))))

noncomputable def fewO (bs : List Bool) : OpO := match bs with
  | [b1, b2, b3, b4, b5] => orO (forceO Tryz.prog 6 (.bool b1)) (orO (forceO Tryz.prog 11 (.bool b2)) (orO (forceO Tryz.prog 17 (.bool b3)) (orO (forceO Tryz.prog 24 (.bool b4)) (forceO Tryz.prog 32 (.bool b5)))))
  | _ => noOO
theorem fewO_sound (b1 b2 b3 b4 b5 : Bool) : SoundO Tryz.prog (fewO [b1, b2, b3, b4, b5]) := orO_sound forceO_sound (orO_sound forceO_sound (orO_sound forceO_sound (orO_sound forceO_sound forceO_sound)))
noncomputable def oo3a (bs : List Bool) : OpO := callO Tryz.prog (inC Tryz.prog pCall (fewO bs) 60 [8])
theorem oo3a_sound (b1 b2 b3 b4 b5 : Bool) : SoundO Tryz.prog (oo3a [b1, b2, b3, b4, b5]) := callO_sound (inC_sound hm pCall_sound (fewO_sound b1 b2 b3 b4 b5))

def dcd (n k : Nat) (b : Bool) : Prop := some (Value.bool (decide ((n : Int) ≤ (k : Int)))) = some (Value.bool b)
theorem dcd_of {n k : Nat} {b : Bool} (h : decide (n ≤ k) = b) : dcd n k b := by
  unfold dcd
  rw [← h]
  congr 2
  simp

def awG : List Value → Heap → Option CallR := fun args _ => match args with
  | [] => some (.same (.bool true) True)
  | _ => none
theorem awG_sound (h9 : ∀ H, Does Tryz.prog 9 [] H (.bool true) H) : SoundC Tryz.prog (oneC 9 awG) := oneC_sound fun args H r h => by
  unfold awG at h
  split at h
  case h_2 => cases h
  cases h
  intro _
  exact h9 H
abbrev mA (m : Mg) (j n1 : Nat) : List Value := mcs m.p m.d (some ⟨j, 0, none⟩) n1 capG m.a2 m.n2 m.c2 m.a3 m.n3 m.c3 m.rest
end Go.Abs

namespace Go.Abs
open Go.Proofs
set_option maxRecDepth 100000

theorem Ln.ones (l : Ln) : ∀ v ∈ l.cells, one v = true := by
  intro v hv
  rcases List.mem_append.1 hv with hv | hv
  · obtain ⟨b, _, rfl⟩ := List.mem_map.1 hv; rfl
  · obtain ⟨b, _, rfl⟩ := List.mem_map.1 hv; rfl
end Go.Abs

namespace Go.Abs
open Go.Proofs
set_option maxRecDepth 100000

abbrev dA (f : Nat → Int) : Array Value := (bytes (dgf f)).toArray
theorem leaves_len (m : Mf) (ls : List Ln) (ss : List Sr) (xs : List Ct) : (leaves m ls ss xs).length = 1 + ls.length + ss.length + xs.length := by simp [leaves]; omega
theorem flatD_at {ds : List (List Int)} (h : ∀ d ∈ ds, d.length = 32) {i : Nat} {d : List Int} (hd : ds[i]? = some d) : LdC Tryz.prog 26 (some (flatD ds)) (0 + i * 32) (dig d) := by
  have h2 : ∀ (l : List (List Int)), (∀ x ∈ l, x.length = 32) → ∀ (i : Nat) x, l[i]? = some x → ((flatD l).drop (i * 32)).take 32 = bytes x ∧ i * 32 + 32 ≤ (flatD l).length := fun l hl i x hx => flat_part bytes 32 l (fun y hy => by rw [bytes_len]; exact hl y hy) i x hx
  obtain ⟨h3, h4⟩ := h2 ds h i d hd
  rw [Nat.zero_add]
  exact ldC_agg agg26 siz26 h4 h3
theorem neq_ok (f : Nat → Int) : NeqC (dA f) (dA f) := ⟨rfl, by simp [bytes_len, dgf_len], by simpa using bytes_u8⟩

theorem wrap_1k {k : Nat} (h : k ≤ 1000000000) : IntKind.i64.wrap (1 + (k : Int)) = ((k + 1 : Nat) : Int) := by
  rw [Int.add_comm]; exact wrap_i1 h

theorem Mg.slh {m : Mg} {o0 o1 o2 : AObj} {ls : List Ln} {ss : List Sr} {xs : List Ct} (h : m.ok o0 o1 o2 ls ss xs) {H : Heap} (g0 : H.get 0 = o0) (g1 : H.get 1 = o1) (g2 : H.get 2 = o2) :
    SLH H m.a1 m.n1 m.c1 ls.length (ls.flatMap Ln.cells) ∧ SLH H m.a2 m.n2 m.c2 ss.length (ss.flatMap Sr.cells) ∧ SLH H m.a3 m.n3 m.c3 xs.length (xs.flatMap Ct.cells) := by
  have key : ∀ {j : Nat} {a : Option Addr} {n c : Nat} {o : AObj} {k : Nat} {cs : List Value}, SL j a n c o k cs → H.get j = o → SLH H a n c k cs := by
    intro j a n c o k cs hs hg
    rcases hs with ⟨h1, h2, h3, _, h5⟩ | ⟨h1, h2, h3, h4, h5⟩
    · exact .inl ⟨h1, h2, h3, h5⟩
    · refine .inr ⟨j, 0, cs, h1, h4, ?_, by rw [List.drop_zero, List.take_length], by omega, h5⟩
      unfold Heap.row
      rw [hg, h3]
  exact ⟨key h.f.l g0, key h.f.s g1, key h.f.x g2⟩

end Go.Abs

namespace Go.Abs
open Go.Proofs
set_option maxRecDepth 100000

end Go.Abs

