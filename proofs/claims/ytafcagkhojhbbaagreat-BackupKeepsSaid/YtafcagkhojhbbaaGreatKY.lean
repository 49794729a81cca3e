/- BackupKeeps of law 31: Keep and Expire of the program return the lists of the specification, for all days, numbers of days and today; no condition. -/
import Derived.Test.YtafcagkhojhbbaaGreatKW
set_option linter.unusedSimpArgs false
set_option linter.unusedVariables false
namespace Go.Abs
open Go.Proofs
set_option maxRecDepth 1000000

/-- The catalogue of the statement, in its own function's heap. -/
def mTabs : List Value := [sB [116], .slice (some ⟨1, 0, none⟩) 1 1, i64 0, i64 0]
def mBks (K : Int) : List Value := [sB [98], .slice (some ⟨3, 0, none⟩) 1 1, i64 K]
def mCat : List Value := [.slice (some ⟨2, 0, none⟩) 1 1, nil', nil', nil', nil', nil', nil', .slice (some ⟨4, 0, none⟩) 1 1]
structure CatC (K : Int) (args : List Value) (H : Heap) : Prop where
  args : args = [.agg mCat.toArray]
  r1 : H.row 1 = some cCols
  r2 : H.row 2 = some mTabs
  r3 : H.row 3 = some cNms
  r4 : H.row 4 = some (mBks K)
  lo : 1 ≤ K
  hi : K ≤ 40
def imp_part (t k m b : Nat) (c1 c2 c3 c4 : Nat) : Part := fun j => if j = 0 then some (k, 0, c1) else if j = 1 then some (t, 0, c2) else if j = 2 then some (m, 0, c3) else if j = 3 then some (b, 0, c4) else none
theorem cat_imp {K : Int} {t k m b c1 c2 c3 c4 : Nat} {H : Heap} (r1 : H.row k = some cCols) (r2 : H.row t = some [sB [116], .slice (some ⟨k, 0, none⟩) 1 c1, i64 0, i64 0]) (r3 : H.row m = some cNms) (r4 : H.row b = some [sB [98], .slice (some ⟨m, 0, none⟩) 1 c3, i64 K]) :
    Imp Tryz.prog [.agg [.slice (some ⟨t, 0, none⟩) 1 c2, nil', nil', nil', nil', nil', nil', .slice (some ⟨b, 0, none⟩) 1 c4].toArray] H [.agg cAgg.toArray] (HV K) := by
  refine imp_gen (imp_part t k m b c1 c2 c3 c4) ?_ ?_ ?_
  · intro j x hj
    by_cases h0 : j = 0
    · omega
    · by_cases h1 : j = 1
      · omega
      · by_cases h2 : j = 2
        · omega
        · by_cases h3 : j = 3
          · omega
          · simp [imp_part, h0, h1, h2, h3] at hj
  · exact .cons (RI.agg (m := cAgg) (.cons (RI.slice rfl) (.cons (.closed rfl) (.cons (.closed rfl) (.cons (.closed rfl) (.cons (.closed rfl) (.cons (.closed rfl) (.cons (.closed rfl) (.cons (RI.slice rfl) .nil))))))))) .nil
  · intro p hp
    simp only [List.mem_cons, List.not_mem_nil, or_false] at hp
    rcases hp with rfl | rfl | rfl | rfl
    · exact .inr ⟨k, 0, c1, cCols, cCols, cCols, rfl, r1, rfl, rfl, RI.all (by intro v hv; simp [cCols] at hv; rcases hv with rfl | rfl | rfl | rfl | rfl | rfl | rfl <;> rfl), Nat.le_refl _⟩
    · exact .inr ⟨t, 0, c2, _, cTabs, _, rfl, r2, rfl, rfl, .cons (.closed rfl) (.cons (RI.slice rfl) (.cons (.closed rfl) (.cons (.closed rfl) .nil))), Nat.le_refl _⟩
    · exact .inr ⟨m, 0, c3, _, cNms, _, rfl, r3, rfl, rfl, .cons (.closed rfl) .nil, Nat.le_refl _⟩
    · exact .inr ⟨b, 0, c4, _, cBks K, _, rfl, r4, rfl, rfl, .cons (.closed rfl) (.cons (RI.slice rfl) (.cons (.closed rfl) .nil)), Nat.le_refl _⟩
def catG (K : Int) : List Value → Heap → Option CallR := fun args H => some (.same (.bool true) (CatC K args H))
theorem cat40 (K : Int) : SoundC Tryz.prog (oneC 40 (catG K)) := oneC_sound fun args H r h => by
  cases h
  intro hc
  obtain ⟨rfl, r1, r2, r3, r4, lo, hi⟩ := hc
  obtain ⟨H', hd⟩ := does40 lo (by omega : K ≤ 1048576)
  exact frame_val hd rfl (cat_imp r1 r2 r3 r4)
theorem cat42 (K : Int) : SoundC Tryz.prog (oneC 42 (catG K)) := oneC_sound fun args H r h => by
  cases h
  intro hc
  obtain ⟨rfl, r1, r2, r3, r4, lo, hi⟩ := hc
  obtain ⟨H', hd⟩ := does42 lo (by omega : K ≤ 1048576)
  exact frame_val hd rfl (cat_imp r1 r2 r3 r4)

/-- A value is this closed one. -/
def isV : Value → Value → Bool
  | .string s, .string s' => decide (s.data.toList = s'.data.toList)
  | .int .i64 n, .int .i64 n' => decide (n = n')
  | .slice none 0 0, .slice none 0 0 => true
  | _, _ => false
theorem isV_eq {v v' : Value} (h : isV v v' = true) : v = v' := by
  unfold isV at h
  split at h
  · rename_i s s'
    have := of_decide_eq_true h
    obtain ⟨⟨l⟩⟩ := s
    obtain ⟨⟨l'⟩⟩ := s'
    simp at this
    subst this
    rfl
  · rw [of_decide_eq_true h]
  · rfl
  · cases h
def areV : List Value → List Value → Bool
  | [], [] => true
  | v :: l, v' :: l' => isV v v' && areV l l'
  | _, _ => false
theorem areV_eq : ∀ {l l' : List Value}, areV l l' = true → l = l'
  | [], [], _ => rfl
  | v :: l, v' :: l', h => by
    simp only [areV, Bool.and_eq_true] at h
    rw [isV_eq h.1, areV_eq h.2]
  | [], _ :: _, h => by simp [areV] at h
  | _ :: _, [], h => by simp [areV] at h

/-- The catalogue of awake, wherever it lies. -/
def isCat (args : List Value) (H : Heap) : Bool := match args with
  | [.agg ⟨[.slice (some ⟨t, 0, none⟩) 1 _, a1, a2, a3, a4, a5, a6, .slice (some ⟨b, 0, none⟩) 1 _]⟩] => areV [a1, a2, a3, a4, a5, a6] [nil', nil', nil', nil', nil', nil'] && (match H.row t, H.row b with
    | some [x, .slice (some ⟨k, 0, none⟩) 1 _, y, z], some [u, .slice (some ⟨m, 0, none⟩) 1 _, w] => areV [x, y, z, u, w] [sB [116], i64 0, i64 0, sB [98], i64 1] && (match H.row k, H.row m with
      | some cs, some ns => areV cs cCols && areV ns cNms
      | _, _ => false)
    | _, _ => false)
  | _ => false
theorem isCat_imp {args : List Value} {H : Heap} (h : isCat args H = true) : Imp Tryz.prog args H [.agg cAgg.toArray] (HV 1) := by
  unfold isCat at h
  split at h
  case h_2 => cases h
  rename_i t ct a1 a2 a3 a4 a5 a6 b cb
  simp only [Bool.and_eq_true] at h
  obtain ⟨ha, h⟩ := h
  have ha := areV_eq ha
  simp only [List.cons.injEq, and_true] at ha
  obtain ⟨rfl, rfl, rfl, rfl, rfl, rfl⟩ := ha
  split at h
  case h_2 => cases h
  rename_i x k ck y z u m cm w hr1 hr2
  simp only [Bool.and_eq_true] at h
  obtain ⟨hx, h⟩ := h
  have hx := areV_eq hx
  simp only [List.cons.injEq, and_true] at hx
  obtain ⟨rfl, rfl, rfl, rfl, rfl⟩ := hx
  split at h
  case h_2 => cases h
  rename_i cs ns hk hm'
  simp only [Bool.and_eq_true] at h
  have e1 := areV_eq h.1
  have e2 := areV_eq h.2
  subst e1 e2
  exact cat_imp hk hr1 hm' hr2
def catO : CallF := fun f args H => bif (Nat.beq f 40 || Nat.beq f 42) && isCat args H then some (.bool true, none) else none
theorem catO_sound : ∀ f args H v h, catO f args H = some (v, h) → Does Tryz.prog f args H v (h.getD H) := by
  intro f args H v h hr
  obtain ⟨hf, hx⟩ := cond_opt hr
  cases hx
  simp only [Bool.and_eq_true, Bool.or_eq_true] at hf
  obtain ⟨hf, hc⟩ := hf
  rcases hf with hf | hf
  · have := beqN hf; subst this; obtain ⟨H', hd⟩ := does40 (K := 1) (by decide) (by decide); exact frame_val hd rfl (isCat_imp hc)
  · have := beqN hf; subst this; obtain ⟨H', hd⟩ := does42 (K := 1) (by decide) (by decide); exact frame_val hd rfl (isCat_imp hc)

/-- Sums of known bytes. -/
def sumO : CallF := fun f args H => match args with
  | [.int .u64 d, .slice (some ⟨id, off, none⟩) n _] => bif Nat.beq f 46 then (match H.row id with
    | some cs => bif Nat.ble (off + n) cs.length then (match u8s ((cs.drop off).take n) with
      | some bs => some (dig (sumS d bs), none)
      | none => none) else none
    | none => none) else none
  | _ => none
theorem sumO_sound : ∀ f args H v h, sumO f args H = some (v, h) → Does Tryz.prog f args H v (h.getD H) := by
  intro f args H v h hr
  unfold sumO at hr
  split at hr
  case h_2 => cases hr
  rename_i d id off n c
  obtain ⟨hf, hx⟩ := cond_opt hr
  clear hr
  have hf := beqN hf
  subst hf
  split at hx
  case h_2 => cases hx
  rename_i cs hrow
  obtain ⟨hb, hx⟩ := cond_opt hx
  have hb := bleN hb
  split at hx
  case h_2 => cases hx
  rename_i bs hbs
  cases hx
  have hw := u8s_eq hbs
  have hl : bs.length = n := by
    have := congrArg List.length hw
    simp [bytes] at this
    omega
  subst hl
  exact does31f hrow hw hb
end Go.Abs

