/- For every manifest, seed and index the statements ManifestSigns and ManifestAccepts of law 40 hold, with no condition. -/
import Derived.Test.YtkkocgjpfakfpaaGreatWC1
import Derived.Test.YtkkocgjpfakfpaaGreatWBa
import Derived.Test.YtkkocgjpfakfpaaGreatWCd
set_option linter.unusedSimpArgs false
set_option linter.unusedVariables false
namespace Go.Abs
open Go.Proofs
set_option maxRecDepth 100000

def bytes (bs : List Int) : List Value := bs.map (.int .u8)
theorem bytes_c2 {bs : List Int} : ∀ v ∈ bytes bs, c2 v = true := by
  intro v hv
  obtain ⟨b, _, rfl⟩ := List.mem_map.1 hv
  rfl

/-- A byte is laid into a word. -/
def lay (x : Int) (i : Nat) (b : Int) : Int := o64 x (IntKind.u64.wrap (IntKind.u64.wrap b * 2 ^ (8 * i)))
def wordFrom (x : Int) : Nat → List Int → Int
  | _, [] => x
  | i, b :: bs => wordFrom (lay x i b) (i + 1) bs
def wordL (bs : List Int) : Int := wordFrom 0 0 bs

theorem run126 (b0 b1 b2 b3 b4 b5 b6 b7 : Int) : (runF Tryz.prog noO 100 126 [.slice (some ⟨0, 0, none⟩) 8 capG] ⟨1, [(0, .ro (bytes [b0, b1, b2, b3, b4, b5, b6, b7]))]⟩).map (·.1) = some (.int .u64 (wordL [b0, b1, b2, b3, b4, b5, b6, b7])) := by kernel_rfl
theorem run128 (b0 b1 b2 b3 b4 b5 b6 b7 : Int) : (runF Tryz.prog noO 100 128 [.slice (some ⟨0, 0, none⟩) 8 capG] ⟨1, [(0, .ro (bytes [b0, b1, b2, b3, b4, b5, b6, b7]))]⟩).map (·.1) = some (.int .u64 (wordL [b0, b1, b2, b3, b4, b5, b6, b7])) := by kernel_rfl

theorem val_of_run {O : CallF} (hO : ∀ f args H v h, O f args H = some (v, h) → Does Tryz.prog f args H v (h.getD H)) {n : Nat} {f : FuncId} {args args0 : List Value} {H H0 : Heap} {v : Value} (h : (runF Tryz.prog O n f args0 H0).map (·.1) = some v)
    (hv : c2 v = true) (hi : Imp Tryz.prog args H args0 H0) : Does Tryz.prog f args H v H := by
  cases hr : runF Tryz.prog O n f args0 H0 with
  | none => rw [hr] at h; cases h
  | some r =>
    obtain ⟨u, h'⟩ := r
    rw [hr] at h
    simp only [Option.map_some, Option.some.injEq] at h
    subst h
    exact frame_val (runF_sound hm hO hr) hv hi

theorem list8 {bs : List Int} (h : bs.length = 8) : ∃ b0 b1 b2 b3 b4 b5 b6 b7, bs = [b0, b1, b2, b3, b4, b5, b6, b7] := by
  match bs, h with
  | [b0, b1, b2, b3, b4, b5, b6, b7], _ => exact ⟨_, _, _, _, _, _, _, _, rfl⟩

theorem does126 {H : Heap} {id off c : Nat} {cs : List Value} {bs : List Int} (hr : H.row id = some cs) (hw : (cs.drop off).take 8 = bytes bs) (hb : bs.length = 8) (hm : off + 8 ≤ cs.length) : Does Tryz.prog 126 [.slice (some ⟨id, off, none⟩) 8 c] H (.int .u64 (wordL bs)) H := by
  obtain ⟨b0, b1, b2, b3, b4, b5, b6, b7, rfl⟩ := list8 hb
  exact val_of_run noO_sound (run126 b0 b1 b2 b3 b4 b5 b6 b7) rfl (imp_slice (pre := []) (post := []) rfl rfl hr hw hm bytes_c2)
theorem does128 {H : Heap} {id off c : Nat} {cs : List Value} {bs : List Int} (hr : H.row id = some cs) (hw : (cs.drop off).take 8 = bytes bs) (hb : bs.length = 8) (hm : off + 8 ≤ cs.length) : Does Tryz.prog 128 [.slice (some ⟨id, off, none⟩) 8 c] H (.int .u64 (wordL bs)) H := by
  obtain ⟨b0, b1, b2, b3, b4, b5, b6, b7, rfl⟩ := list8 hb
  exact val_of_run noO_sound (run128 b0 b1 b2 b3 b4 b5 b6 b7) rfl (imp_slice (pre := []) (post := []) rfl rfl hr hw hm bytes_c2)
end Go.Abs

namespace Go.Abs
open Go.Proofs
set_option maxRecDepth 100000

/-- Words of the bytes at block 0. -/
def wordC (bs : List Int) : CallC := fun f args H => match args with
  | [.slice (some ⟨0, off, none⟩) n _] => bif Nat.beq f 126 || Nat.beq f 128 then some (.same (.int .u64 (wordL ((bs.drop off).take 8))) (H.row 0 = some (bytes bs) ∧ n = 8 ∧ off + 8 ≤ bs.length)) else none
  | _ => none

theorem wordC_sound {bs : List Int} : SoundC Tryz.prog (wordC bs) := by
  have key : ∀ f args H r, wordC bs f args H = some r → ∃ v q, r = .same v q ∧ (q → Does Tryz.prog f args H v H) := by
    intro f args H r h
    unfold wordC at h
    split at h
    case h_2 => cases h
    rename_i off n c
    obtain ⟨hf, hx⟩ := cond_some h
    clear h
    subst hx
    refine ⟨_, _, rfl, fun ⟨h1, h2, h3⟩ => ?_⟩
    subst h2
    have hw : ((bytes bs).drop off).take 8 = bytes ((bs.drop off).take 8) := by simp [bytes]
    have hl : ((bs.drop off).take 8).length = 8 := by simp; omega
    have hm : off + 8 ≤ (bytes bs).length := by simpa [bytes] using h3
    simp only [Bool.or_eq_true] at hf
    rcases hf with hf | hf
    · have := beqN hf; subst this; exact does126 h1 hw hl hm
    · have := beqN hf; subst this; exact does128 h1 hw hl hm
  refine ⟨fun f args H v c h hc => ?_, fun f args H v H' c h hc => ?_⟩
  · obtain ⟨_, _, h, k⟩ := key _ _ _ _ h; cases h; exact k hc
  · obtain ⟨_, _, h, k⟩ := key _ _ _ _ h; cases h

def u8s : List Value → Option (List Int)
  | [] => some []
  | .int .u8 b :: vs => match u8s vs with
    | some bs => some (b :: bs)
    | none => none
  | _ => none
theorem u8s_eq : ∀ {vs : List Value} {bs : List Int}, u8s vs = some bs → vs = bytes bs
  | [], bs, h => by cases h; rfl
  | v :: vs, bs, h => by
    unfold u8s at h
    split at h
    · rename_i heq; cases heq
    · rename_i b vs' heq
      cases heq
      split at h
      · rename_i bs' hb; cases h; rw [u8s_eq hb]; rfl
      · cases h
    · cases h

/-- Words of known bytes. -/
def wordO : CallF := fun f args H => match args with
  | [.slice (some ⟨id, off, none⟩) 8 _] => bif Nat.beq f 126 || Nat.beq f 128 then (match H.row id with
    | some cs => bif Nat.ble (off + 8) cs.length then (match u8s ((cs.drop off).take 8) with
      | some bs => some (.int .u64 (wordL bs), none)
      | none => none) else none
    | none => none) else none
  | _ => none

theorem wordO_sound : ∀ f args H v h, wordO f args H = some (v, h) → Does Tryz.prog f args H v (h.getD H) := by
  intro f args H v h hr
  unfold wordO at hr
  split at hr
  case h_2 => cases hr
  rename_i id off c
  obtain ⟨hf, hx⟩ := cond_opt hr
  clear hr
  split at hx
  case h_2 => cases hx
  rename_i cs hrow
  obtain ⟨hb, hx⟩ := cond_opt hx
  split at hx
  case h_2 => cases hx
  rename_i bs hbs
  cases hx
  have hm := bleN hb
  have hw := u8s_eq hbs
  have hl : bs.length = 8 := by
    have := congrArg List.length hw
    simp [bytes] at this
    omega
  simp only [Bool.or_eq_true] at hf
  rcases hf with hf | hf
  · have := beqN hf; subst this; exact does126 hrow hw hl hm
  · have := beqN hf; subst this; exact does128 hrow hw hl hm

def orC (a b : CallF) : CallF := fun f args H => match a f args H with
  | some r => some r
  | none => b f args H
theorem orC_sound {a b : CallF} (ha : ∀ f args H v h, a f args H = some (v, h) → Does Tryz.prog f args H v (h.getD H)) (hb : ∀ f args H v h, b f args H = some (v, h) → Does Tryz.prog f args H v (h.getD H)) : ∀ f args H v h, orC a b f args H = some (v, h) → Does Tryz.prog f args H v (h.getD H) := by
  intro f args H v h hr
  unfold orC at hr
  split at hr
  · rename_i r hx; cases hr; exact ha _ _ _ _ _ hx
  · exact hb _ _ _ _ _ hr

noncomputable def pCall : CallF := runF Tryz.prog (orC permO wordO) 200
theorem pCall_sound : ∀ f args H v h, pCall f args H = some (v, h) → Does Tryz.prog f args H v (h.getD H) := fun _ _ _ _ _ h => runF_sound hm (orC_sound permO_sound wordO_sound) h

def absStep (s : S5) (w : Int) : S5 := perm ⟨x64 s.a w, s.b, s.c, s.d, s.e⟩

theorem r73a (s : S5) (bs : List Int) (off n c : Nat) (X : Nat → Value) (l : List (Nat × AObj)) :
    (ex3 Tryz.prog pCall (orO (callO Tryz.prog (wordC bs)) (orO (sliceU Tryz.prog 16) (sliceU Tryz.prog 23))) 30 (codeOf Tryz.f73 [1,1,0,0,0,1]) ⟨⟨mkT 38 [(1, .slice (some ⟨0, off, none⟩) n c), (4, pt 1), (5, pt 2)] X, mkH 3 [(0, .ro (bytes bs)), (1, S5.zero.obj), (2, s.obj)] l, []⟩, True⟩).map (obs3 [1, 4, 5] [0, 1, 2])
     = some (⟨0, [.slice (some ⟨0, off + 8, none⟩) (n - 8) (c + 8), pt 1, pt 2], 38, 3, [.ro (bytes bs), S5.zero.obj, (absStep s (wordL ((bs.drop off).take 8))).obj], []⟩,
        (capG ≤ c ∧ (0 : Int) ≤ 8 ∧ (8 : Int) ≤ (n : Int) ∧ (n : Int) ≤ (n : Int) ∧ ((8 : Int) = 0 ∨ (8 : Int) < (n : Int))) ∧ (some (bytes bs) = some (bytes bs) ∧ 8 = 8 ∧ off + 8 ≤ bs.length) ∧
        (capG ≤ c ∧ (0 : Int) ≤ 0 ∧ (0 : Int) ≤ 8 ∧ (8 : Int) ≤ (n : Int) ∧ ((0 : Int) = 0 ∨ (0 : Int) < (n : Int))) ∧ True) := by kernel_rfl
end Go.Abs

namespace Go.Abs
open Go.Proofs
set_option maxRecDepth 100000

def part (bs : List Int) (off m : Nat) : List Value := (List.range m).map fun j => .int .u8 (bs.getD (off + j) 0)
theorem part_eq {bs : List Int} {off m : Nat} (h : off + m ≤ bs.length) : ((bytes bs).drop off).take m = part bs off m := by
  refine List.ext_getElem (by simp [bytes, part]; omega) fun i h1 h2 => ?_
  have hi : i < m := by simpa [part] using h2
  simp [bytes, part, List.getD_eq_getElem?_getD, show off + i < bs.length by omega]
theorem part_one {bs : List Int} {off m : Nat} : (part bs off m).all one = true := by
  rw [List.all_eq_true]
  intro v hv
  obtain ⟨j, _, rfl⟩ := List.mem_map.1 hv
  rfl

/-- A copy out of the bytes at block 0. -/
def copyO (P : Program) (bs : List Int) (d : Nat) : OpO := fun o ρ H => match o.dst with
  | some d' => bif Nat.beq d' d then (match o.op with
    | .call c => match c.callee with
      | .builtin .copy => match c.argTypes.toList, c.args.toList with
        | [dT, _], [dd, x] => match P.underlying dT, ρ dd, ρ x with
          | some (.slice e), .slice (some ⟨id, doff, none⟩) n _, .slice (some ⟨0, off, none⟩) m _ => match sizeT P e, (H.get id).own with
            | some 1, some dst => some (.eff (.int .i64 m) (H.put id ((H.get id).setOwn (splice dst doff (part bs off m)))) (H.row 0 = some (bytes bs) ∧ 0 < m ∧ off + m ≤ bs.length ∧ doff + m ≤ dst.length ∧ m ≤ n))
            | _, _ => none
          | _, _, _ => none
        | _, _ => none
      | _ => none
    | _ => none) else none
  | none => none

theorem copyO_sound {P : Program} {bs : List Int} {d : Nat} : SoundO P (copyO P bs d) := by
  have key : ∀ o ρ H r, copyO P bs d o ρ H = some r → ∃ v H' c, r = .eff v H' c ∧ (c → ∀ D, SDoes P o ρ H D v H' D) := by
    intro o ρ H r h
    unfold copyO at h
    split at h
    case h_2 => cases h
    obtain ⟨_, h⟩ := cond_opt h
    split at h
    case h_2 => cases h
    rename_i c ho
    split at h
    case h_2 => cases h
    rename_i hcal
    split at h
    case h_2 => cases h
    rename_i dT xT dd x hat hargs
    split at h
    case h_2 => cases h
    rename_i e id doff n cc off m cx hu hd hx
    split at h
    case h_2 => cases h
    rename_i dst hs hown
    cases h
    refine ⟨_, _, _, rfl, fun ⟨c1, c2, c3, c4, c5⟩ D => .of_ev D ?_⟩
    obtain ⟨m, rfl⟩ : ∃ k, m = k + 1 := ⟨m - 1, by omega⟩
    have hsrc : srcA H 1 (.slice (some ⟨0, off, none⟩) (m + 1) cx) = some (m + 1, part bs off (m + 1)) := by
      have hb : Nat.ble (off + (m + 1)) (bytes bs).length = true := by
        rw [Nat.ble_eq]; simp only [bytes, List.length_map]; omega
      simp only [srcA, c1, Nat.mul_one, hb, cond_true, part_eq c3]
    have b1 : Nat.ble (doff + (m + 1) * 1) dst.length = true := by rw [Nat.ble_eq]; omega
    have b5 : Nat.ble (m + 1) n = true := by rw [Nat.ble_eq]; omega
    obtain ⟨dst', op, type, pos, after, guard⟩ := o
    obtain ⟨callee, args, argTypes⟩ := c
    simp only at ho hcal hat hargs
    subst ho hcal
    have ha : args = #[dd, x] := by rw [← Array.toArray_toList (xs := args), hargs]
    have hb : argTypes = #[dT, xT] := by rw [← Array.toArray_toList (xs := argTypes), hat]
    subst ha hb
    simp only [evW, evE, hu, hs, hd, hx, hsrc, hown, b1, b5, part_one, strOk, Bool.and_true, Bool.true_and, Nat.blt]
    rfl
  refine ⟨fun o ρ H v ob c h => ?_, fun o ρ H v c h => ?_, fun o ρ H v c h => ?_, fun o ρ H v c h => ?_, fun o ρ H v H' c h => ?_⟩
  · obtain ⟨_, _, _, h, k⟩ := key _ _ _ _ h; cases h
  · obtain ⟨_, _, _, h, k⟩ := key _ _ _ _ h; cases h
  · obtain ⟨_, _, _, h, k⟩ := key _ _ _ _ h; cases h
  · obtain ⟨_, _, _, h, k⟩ := key _ _ _ _ h; cases h
  · obtain ⟨_, _, _, h, k⟩ := key _ _ _ _ h; cases h; exact k
end Go.Abs

namespace Go.Abs
open Go.Proofs
set_option maxRecDepth 100000

def padL (bs : List Int) : List Int := bs ++ 1 :: List.replicate (7 - bs.length) 0
def absF : Nat → S5 → List Int → S5
  | 0, s, _ => s
  | f + 1, s, bs => if 8 ≤ bs.length then absF f (absStep s (wordL (bs.take 8))) (bs.drop 8) else absStep s (wordL (padL bs))
def absorbS (d : Int) (bs : List Int) : S5 := absF (bs.length + 1) (perm ⟨d, 1, 2, 3, 4⟩) bs
def nilE : Value := .slice (some ⟨0, 0, some 1⟩) 0 0
def secI (bs : List Int) (off m : Nat) : List Int := (List.range m).map fun j => bs.getD (off + j) 0

theorem r73r0 (d : Int) (bs : List Int) (n : Nat) (l : List (Nat × AObj)) : (ex3 Tryz.prog pCall noOO 30 (codeOf Tryz.f73 [0]) ⟨⟨[.int .u64 d, .slice (some ⟨0, 0, none⟩) n capG] ++ List.replicate 36 undef, mkH 1 [(0, .ro (bytes bs))] l, []⟩, True⟩).map (obs3 [0, 1, 4] [0, 1])
   = some (⟨0, [.int .u64 d, .slice (some ⟨0, 0, none⟩) n capG, pt 1], 38, 2, [.ro (bytes bs), S5.zero.obj], []⟩, True) := by kernel_rfl
theorem r73r1 (d : Int) (bs : List Int) (n : Nat) (X : Nat → Value) (l : List (Nat × AObj)) : (ex3 Tryz.prog pCall noOO 30 (codeOf Tryz.f73 [1,0]) ⟨⟨mkT 38 [(0, .int .u64 d), (1, .slice (some ⟨0, 0, none⟩) n capG), (4, pt 1)] X, mkH 2 [(0, .ro (bytes bs)), (1, S5.zero.obj)] l, []⟩, True⟩).map (obs3 [1, 4, 5] [0, 1, 2])
   = some (⟨0, [.slice (some ⟨0, 0, none⟩) n capG, pt 1, pt 2], 38, 3, [.ro (bytes bs), S5.zero.obj, (perm ⟨d, 1, 2, 3, 4⟩).obj], []⟩, True) := by kernel_rfl
theorem r73r2 (s : S5) (bs : List Int) (v : Addr) (n c : Nat) (X : Nat → Value) (l : List (Nat × AObj)) : (ex3 Tryz.prog pCall noOO 30 (codeOf Tryz.f73 [1,1,0,0,0,0,0]) ⟨⟨mkT 38 [(1, .slice (some v) n c), (4, pt 1), (5, pt 2)] X, mkH 3 [(0, .ro (bytes bs)), (1, S5.zero.obj), (2, s.obj)] l, []⟩, True⟩).map (obs3 [1, 4, 5, 12] [0, 1, 2])
   = some (⟨0, [.slice (some v) n c, pt 1, pt 2, .bool (decide ((8 : Int) ≤ (n : Int)))], 38, 3, [.ro (bytes bs), S5.zero.obj, s.obj], []⟩, True) := by kernel_rfl
theorem r73b (s : S5) (bs : List Int) (off c : Nat) (X : Nat → Value) (l : List (Nat × AObj)) :
    (ex3 Tryz.prog pCall (orO (callO Tryz.prog (wordC bs)) (orO (sliceU Tryz.prog 16) (sliceE Tryz.prog 23))) 30 (codeOf Tryz.f73 [1,1,0,0,0,1]) ⟨⟨mkT 38 [(1, .slice (some ⟨0, off, none⟩) 8 c), (4, pt 1), (5, pt 2)] X, mkH 3 [(0, .ro (bytes bs)), (1, S5.zero.obj), (2, s.obj)] l, []⟩, True⟩).map (obs3 [1, 4, 5] [0, 1, 2])
     = some (⟨0, [nilE, pt 1, pt 2], 38, 3, [.ro (bytes bs), S5.zero.obj, (absStep s (wordL ((bs.drop off).take 8))).obj], []⟩,
        ((8 : Int) = (8 : Int)) ∧ (some (bytes bs) = some (bytes bs) ∧ 8 = 8 ∧ off + 8 ≤ bs.length) ∧
        (capG ≤ c ∧ (0 : Int) ≤ 0 ∧ (0 : Int) ≤ 8 ∧ (8 : Int) ≤ (8 : Int) ∧ ((0 : Int) = 0 ∨ (0 : Int) < (8 : Int))) ∧ True) := by kernel_rfl
theorem r73t0 (s : S5) (bs : List Int) (X : Nat → Value) (l : List (Nat × AObj)) : (ex3 Tryz.prog pCall noOO 60 (codeOf Tryz.f73 [1,1,1]) ⟨⟨mkT 38 [(1, .slice (some ⟨0, 0, none⟩) 0 capG), (4, pt 1), (5, pt 2)] X, mkH 3 [(0, .ro (bytes bs)), (1, S5.zero.obj), (2, s.obj)] l, []⟩, True⟩).map (fin3 Tryz.prog Tryz.f73 [0])
   = some (⟨1, some (absStep s (wordL (padL []))).arr, 4, [.ro (bytes bs)], []⟩, True) := by kernel_rfl
theorem r73tE (s : S5) (bs : List Int) (X : Nat → Value) (l : List (Nat × AObj)) : (ex3 Tryz.prog pCall noOO 60 (codeOf Tryz.f73 [1,1,1]) ⟨⟨mkT 38 [(1, nilE), (4, pt 1), (5, pt 2)] X, mkH 3 [(0, .ro (bytes bs)), (1, S5.zero.obj), (2, s.obj)] l, []⟩, True⟩).map (fin3 Tryz.prog Tryz.f73 [0])
   = some (⟨1, some (absStep s (wordL (padL []))).arr, 4, [.ro (bytes bs)], []⟩, True) := by kernel_rfl

theorem r73t1 (s : S5) (bs : List Int) (off c : Nat) (X : Nat → Value) (l : List (Nat × AObj)) : (ex3 Tryz.prog pCall (copyO Tryz.prog bs 26) 60 (codeOf Tryz.f73 [1,1,1]) ⟨⟨mkT 38 [(1, .slice (some ⟨0, off, none⟩) 1 c), (4, pt 1), (5, pt 2)] X, mkH 3 [(0, .ro (bytes bs)), (1, S5.zero.obj), (2, s.obj)] l, []⟩, True⟩).map (fin3 Tryz.prog Tryz.f73 [0])
   = some (⟨1, some (absStep s (wordL (padL (secI bs off 1)))).arr, 4, [.ro (bytes bs)], []⟩, (some (bytes bs) = some (bytes bs) ∧ 0 < 1 ∧ off + 1 ≤ bs.length ∧ 0 + 1 ≤ 8 ∧ 1 ≤ 8) ∧ True) := by kernel_rfl
theorem r73t2 (s : S5) (bs : List Int) (off c : Nat) (X : Nat → Value) (l : List (Nat × AObj)) : (ex3 Tryz.prog pCall (copyO Tryz.prog bs 26) 60 (codeOf Tryz.f73 [1,1,1]) ⟨⟨mkT 38 [(1, .slice (some ⟨0, off, none⟩) 2 c), (4, pt 1), (5, pt 2)] X, mkH 3 [(0, .ro (bytes bs)), (1, S5.zero.obj), (2, s.obj)] l, []⟩, True⟩).map (fin3 Tryz.prog Tryz.f73 [0])
   = some (⟨1, some (absStep s (wordL (padL (secI bs off 2)))).arr, 4, [.ro (bytes bs)], []⟩, (some (bytes bs) = some (bytes bs) ∧ 0 < 2 ∧ off + 2 ≤ bs.length ∧ 0 + 2 ≤ 8 ∧ 2 ≤ 8) ∧ True) := by kernel_rfl
theorem r73t3 (s : S5) (bs : List Int) (off c : Nat) (X : Nat → Value) (l : List (Nat × AObj)) : (ex3 Tryz.prog pCall (copyO Tryz.prog bs 26) 60 (codeOf Tryz.f73 [1,1,1]) ⟨⟨mkT 38 [(1, .slice (some ⟨0, off, none⟩) 3 c), (4, pt 1), (5, pt 2)] X, mkH 3 [(0, .ro (bytes bs)), (1, S5.zero.obj), (2, s.obj)] l, []⟩, True⟩).map (fin3 Tryz.prog Tryz.f73 [0])
   = some (⟨1, some (absStep s (wordL (padL (secI bs off 3)))).arr, 4, [.ro (bytes bs)], []⟩, (some (bytes bs) = some (bytes bs) ∧ 0 < 3 ∧ off + 3 ≤ bs.length ∧ 0 + 3 ≤ 8 ∧ 3 ≤ 8) ∧ True) := by kernel_rfl
theorem r73t4 (s : S5) (bs : List Int) (off c : Nat) (X : Nat → Value) (l : List (Nat × AObj)) : (ex3 Tryz.prog pCall (copyO Tryz.prog bs 26) 60 (codeOf Tryz.f73 [1,1,1]) ⟨⟨mkT 38 [(1, .slice (some ⟨0, off, none⟩) 4 c), (4, pt 1), (5, pt 2)] X, mkH 3 [(0, .ro (bytes bs)), (1, S5.zero.obj), (2, s.obj)] l, []⟩, True⟩).map (fin3 Tryz.prog Tryz.f73 [0])
   = some (⟨1, some (absStep s (wordL (padL (secI bs off 4)))).arr, 4, [.ro (bytes bs)], []⟩, (some (bytes bs) = some (bytes bs) ∧ 0 < 4 ∧ off + 4 ≤ bs.length ∧ 0 + 4 ≤ 8 ∧ 4 ≤ 8) ∧ True) := by kernel_rfl
theorem r73t5 (s : S5) (bs : List Int) (off c : Nat) (X : Nat → Value) (l : List (Nat × AObj)) : (ex3 Tryz.prog pCall (copyO Tryz.prog bs 26) 60 (codeOf Tryz.f73 [1,1,1]) ⟨⟨mkT 38 [(1, .slice (some ⟨0, off, none⟩) 5 c), (4, pt 1), (5, pt 2)] X, mkH 3 [(0, .ro (bytes bs)), (1, S5.zero.obj), (2, s.obj)] l, []⟩, True⟩).map (fin3 Tryz.prog Tryz.f73 [0])
   = some (⟨1, some (absStep s (wordL (padL (secI bs off 5)))).arr, 4, [.ro (bytes bs)], []⟩, (some (bytes bs) = some (bytes bs) ∧ 0 < 5 ∧ off + 5 ≤ bs.length ∧ 0 + 5 ≤ 8 ∧ 5 ≤ 8) ∧ True) := by kernel_rfl
theorem r73t6 (s : S5) (bs : List Int) (off c : Nat) (X : Nat → Value) (l : List (Nat × AObj)) : (ex3 Tryz.prog pCall (copyO Tryz.prog bs 26) 60 (codeOf Tryz.f73 [1,1,1]) ⟨⟨mkT 38 [(1, .slice (some ⟨0, off, none⟩) 6 c), (4, pt 1), (5, pt 2)] X, mkH 3 [(0, .ro (bytes bs)), (1, S5.zero.obj), (2, s.obj)] l, []⟩, True⟩).map (fin3 Tryz.prog Tryz.f73 [0])
   = some (⟨1, some (absStep s (wordL (padL (secI bs off 6)))).arr, 4, [.ro (bytes bs)], []⟩, (some (bytes bs) = some (bytes bs) ∧ 0 < 6 ∧ off + 6 ≤ bs.length ∧ 0 + 6 ≤ 8 ∧ 6 ≤ 8) ∧ True) := by kernel_rfl
theorem r73t7 (s : S5) (bs : List Int) (off c : Nat) (X : Nat → Value) (l : List (Nat × AObj)) : (ex3 Tryz.prog pCall (copyO Tryz.prog bs 26) 60 (codeOf Tryz.f73 [1,1,1]) ⟨⟨mkT 38 [(1, .slice (some ⟨0, off, none⟩) 7 c), (4, pt 1), (5, pt 2)] X, mkH 3 [(0, .ro (bytes bs)), (1, S5.zero.obj), (2, s.obj)] l, []⟩, True⟩).map (fin3 Tryz.prog Tryz.f73 [0])
   = some (⟨1, some (absStep s (wordL (padL (secI bs off 7)))).arr, 4, [.ro (bytes bs)], []⟩, (some (bytes bs) = some (bytes bs) ∧ 0 < 7 ∧ off + 7 ≤ bs.length ∧ 0 + 7 ≤ 8 ∧ 7 ≤ 8) ∧ True) := by kernel_rfl

theorem r73t (s : S5) (bs : List Int) (off c : Nat) : ∀ k : Nat, 0 < k → k < 8 → ∀ (X : Nat → Value) (l : List (Nat × AObj)), (ex3 Tryz.prog pCall (copyO Tryz.prog bs 26) 60 (codeOf Tryz.f73 [1,1,1]) ⟨⟨mkT 38 [(1, .slice (some ⟨0, off, none⟩) k c), (4, pt 1), (5, pt 2)] X, mkH 3 [(0, .ro (bytes bs)), (1, S5.zero.obj), (2, s.obj)] l, []⟩, True⟩).map (fin3 Tryz.prog Tryz.f73 [0])
   = some (⟨1, some (absStep s (wordL (padL (secI bs off k)))).arr, 4, [.ro (bytes bs)], []⟩, (some (bytes bs) = some (bytes bs) ∧ 0 < k ∧ off + k ≤ bs.length ∧ 0 + k ≤ 8 ∧ k ≤ 8) ∧ True)
  | 1, _, _ => r73t1 s bs off c | 2, _, _ => r73t2 s bs off c | 3, _, _ => r73t3 s bs off c | 4, _, _ => r73t4 s bs off c | 5, _, _ => r73t5 s bs off c | 6, _, _ => r73t6 s bs off c | 7, _, _ => r73t7 s bs off c
  | 0, h, _ => absurd h (by omega)
  | n + 8, _, h => absurd h (by omega)

theorem secI_eq {bs : List Int} {off m : Nat} (h : off + m = bs.length) : secI bs off m = bs.drop off := by
  refine List.ext_getElem (by simp [secI]; omega) fun i h1 h2 => ?_
  have hi : i < m := by simpa [secI] using h1
  simp [secI, List.getD_eq_getElem?_getD, show off + i < bs.length by omega]

theorem does73 (d : Int) (bs : List Int) : Does Tryz.prog 73 [.int .u64 d, .slice (some ⟨0, 0, none⟩) bs.length capG] ⟨1, [(0, .ro (bytes bs))]⟩ (absorbS d bs).arr ⟨1, [(0, .ro (bytes bs))]⟩ := by
  have hKeep : ∀ H : Heap, H.next = 4 → (∀ p ∈ [(0, AObj.ro (bytes bs))], H.get p.1 = p.2) → Keep ⟨1, [(0, .ro (bytes bs))]⟩ H := fun H h1 h2 => ⟨by rw [h1]; show 1 ≤ 4; omega, fun id hid => by
    have : id = 0 := by have : id < 1 := hid; omega
    subst this
    exact h2 (0, _) (List.mem_cons_self ..)⟩
  refine val_of_awp Tryz.func73 (c := codeOf Tryz.f73 []) rfl (S5.c2 _) ?_
  refine awp_seq (x := codeOf Tryz.f73 [0]) (y := codeOf Tryz.f73 [1]) (piece3 hm pCall_sound noOO_sound 1 [(0, .ro (bytes bs))] rfl (fun p hp => by cases List.mem_singleton.1 hp; rfl) (r73r0 d bs bs.length) trivial ?_)
  intro e X H1 he hn hg
  cases tag0 he
  refine awp_seq (x := codeOf Tryz.f73 [1, 0]) (y := codeOf Tryz.f73 [1, 1]) (piece3 hm pCall_sound noOO_sound _ _ hn hg (r73r1 d bs bs.length X) trivial ?_)
  intro e X H1 he hn hg
  cases tag0 he
  refine awp_seq (x := codeOf Tryz.f73 [1, 1, 0]) (y := codeOf Tryz.f73 [1, 1, 1]) (awp_block (c := codeOf Tryz.f73 [1, 1, 0, 0]) (awp_loop (c := codeOf Tryz.f73 [1, 1, 0, 0, 0])
    (fun m T H D => ∃ off s f t X, off + m = bs.length ∧ m < f ∧ absF f s (bs.drop off) = absorbS d bs ∧ ((t = .slice (some ⟨0, off, none⟩) m (capG + off) ∧ (m = 0 → off = 0)) ∨ (m = 0 ∧ t = nilE)) ∧
      T = mkT 38 [(1, t), (4, pt 1), (5, pt 2)] X ∧ H.next = 3 ∧ (∀ p ∈ [(0, .ro (bytes bs)), (1, S5.zero.obj), (2, s.obj)], H.get p.1 = p.2) ∧ D = [])
    bs.length ⟨0, _, bs.length + 1, _, X, by omega, by omega, rfl, .inl ⟨rfl, fun _ => rfl⟩, rfl, hn, hg, rfl⟩ ?_))
  rintro m T H D ⟨off, s, f, t, X, hoff, hf, habs, ht, rfl, hn, hg, rfl⟩
  obtain ⟨v, c, hv⟩ : ∃ v c, t = .slice (some v) m c := by
    rcases ht with ⟨rfl, _⟩ | ⟨rfl, rfl⟩
    · exact ⟨_, _, rfl⟩
    · exact ⟨_, _, rfl⟩
  refine awp_seq (x := codeOf Tryz.f73 [1, 1, 0, 0, 0, 0]) (y := codeOf Tryz.f73 [1, 1, 0, 0, 0, 1]) (awp_seq (x := codeOf Tryz.f73 [1, 1, 0, 0, 0, 0, 0]) (y := codeOf Tryz.f73 [1, 1, 0, 0, 0, 0, 1]) ?_)
  rw [hv]
  refine piece3 hm pCall_sound noOO_sound _ _ hn hg (r73r2 s bs v m c X) trivial ?_
  intro e X H1 he hn hg
  cases tag0 he
  refine awp_cond (c := .tmp 12) (b := decide ((8 : Int) ≤ (m : Int))) rfl rfl ?_
  obtain ⟨f, rfl⟩ : ∃ k, f = k + 1 := ⟨f - 1, by omega⟩
  by_cases h8 : 8 ≤ m
  · rw [decide_eq_true (show (8 : Int) ≤ (m : Int) by omega)]
    refine awp_skip ?_
    show Awp Tryz.prog (codeOf Tryz.f73 [1, 1, 0, 0, 0, 1]) _ (mkT 38 ([(1, .slice (some v) m c), (4, pt 1), (5, pt 2)] ++ [(12, _)]) X) H1 []
    rw [mkT_app]
    have hlen : 8 ≤ (bs.drop off).length := by simp; omega
    rw [absF, if_pos hlen, List.drop_drop] at habs
    rcases ht with ⟨rfl, _⟩ | ⟨h0, _⟩
    case inr => omega
    cases hv
    rcases Nat.lt_or_ge 8 m with h9 | h9
    · refine piece3 hm pCall_sound (orO_sound (callO_sound wordC_sound) (orO_sound sliceU_sound sliceU_sound)) _ _ hn hg (r73a s bs off m (capG + off) _) ⟨⟨Nat.le_add_right _ _, by omega, by omega, by omega, by omega⟩, ⟨rfl, rfl, by omega⟩, ⟨Nat.le_add_right _ _, by omega, by omega, by omega, by omega⟩, trivial⟩ ?_
      intro e X H1 he hn hg
      cases tag0 he
      exact ⟨m - 8, by omega, off + 8, _, f, _, X, by omega, by omega, habs, .inl ⟨by rw [Nat.add_assoc], by omega⟩, rfl, hn, hg, rfl⟩
    · have : m = 8 := by omega
      subst this
      refine piece3 hm pCall_sound (orO_sound (callO_sound wordC_sound) (orO_sound sliceU_sound sliceE_sound)) _ _ hn hg (r73b s bs off (capG + off) _) ⟨rfl, ⟨rfl, rfl, by omega⟩, ⟨Nat.le_add_right _ _, by omega, by omega, by omega, by omega⟩, trivial⟩ ?_
      intro e X H1 he hn hg
      cases tag0 he
      exact ⟨0, by omega, off + 8, _, f, _, X, by omega, by omega, habs, .inr ⟨rfl, rfl⟩, rfl, hn, hg, rfl⟩
  · rw [decide_eq_false (show ¬ (8 : Int) ≤ (m : Int) by omega)]
    refine awp_exit ?_
    have hlen : ¬ 8 ≤ (bs.drop off).length := by simp; omega
    rw [absF, if_neg hlen] at habs
    show Awp Tryz.prog (codeOf Tryz.f73 [1, 1, 1]) _ (mkT 38 ([(1, .slice (some v) m c), (4, pt 1), (5, pt 2)] ++ [(12, _)]) X) H1 []
    rw [mkT_app]
    rcases ht with ⟨rfl, h0⟩ | ⟨rfl, rfl⟩
    · cases hv
      rcases Nat.eq_zero_or_pos m with rfl | hpos
      · have := h0 rfl
        subst this
        have hbs : bs = [] := List.eq_nil_of_length_eq_zero (by omega)
        refine pieceR3 hm pCall_sound noOO_sound _ _ hn hg (r73t0 s bs _) trivial ?_
        intro e T H1 he hr hn hg
        cases tag1 he
        refine ⟨.inr rfl, rfl, _, hr, ?_, hKeep _ hn hg⟩
        rw [← habs, hbs]; rfl
      · refine pieceR3 hm pCall_sound copyO_sound _ _ hn hg (r73t s bs off (capG + off) m hpos (by omega) _) ⟨⟨rfl, hpos, by omega, by omega, by omega⟩, trivial⟩ ?_
        intro e T H1 he hr hn hg
        cases tag1 he
        refine ⟨.inr rfl, rfl, _, hr, ?_, hKeep _ hn hg⟩
        rw [← habs, secI_eq hoff]
    · cases hv
      refine pieceR3 hm pCall_sound noOO_sound _ _ hn hg (r73tE s bs _) trivial ?_
      intro e T H1 he hr hn hg
      cases tag1 he
      refine ⟨.inr rfl, rfl, _, hr, ?_, hKeep _ hn hg⟩
      have : bs.drop off = [] := List.eq_nil_of_length_eq_zero (by simp; omega)
      rw [← habs, this]

end Go.Abs

namespace Go.Abs
open Go.Proofs

theorem does73f {H : Heap} {d : Int} {id off c : Nat} {cs : List Value} {bs : List Int} (hr : H.row id = some cs) (hw : (cs.drop off).take bs.length = bytes bs) (hb : off + bs.length ≤ cs.length) :
    Does Tryz.prog 73 [.int .u64 d, .slice (some ⟨id, off, none⟩) bs.length c] H (absorbS d bs).arr H :=
  frame_val (does73 d bs) (S5.c2 _) (imp_slice (pre := [.int .u64 d]) (post := []) rfl rfl hr hw hb bytes_c2)
end Go.Abs

namespace Go.Abs
open Go.Proofs
set_option maxRecDepth 100000

def byteOf (x : Int) (i : Nat) : Int := IntKind.u8.wrap (x.fdiv (2 ^ (8 * i)))
def wordBytes (x : Int) : List Int := [byteOf x 0, byteOf x 1, byteOf x 2, byteOf x 3, byteOf x 4, byteOf x 5, byteOf x 6, byteOf x 7]
def sqz (s : S5) : List Int := wordBytes s.a ++ (wordBytes (perm s).a ++ (wordBytes (perm (perm s)).a ++ wordBytes (perm (perm (perm s))).a))
def dig (l : List Int) : Value := .agg (bytes l).toArray
def sumS (d : Int) (bs : List Int) : List Int := sqz (absorbS d bs)
theorem dig_c2 (l : List Int) : c2 (dig l) = true := by
  simp only [dig, c2, c1, List.all_toArray, List.all_eq_true]
  intro v hv
  obtain ⟨b, _, rfl⟩ := List.mem_map.1 hv
  rfl

/-- What is absorbed of the bytes at block 0. -/
def absC (bs : List Int) : CallC := fun f args H => match args with
  | [.int .u64 d, .slice (some ⟨0, off, none⟩) n _] => bif Nat.beq f 73 then some (.same (absorbS d bs).arr (H.row 0 = some (bytes bs) ∧ off = 0 ∧ n = bs.length)) else none
  | _ => none

theorem absC_sound {bs : List Int} : SoundC Tryz.prog (absC bs) := by
  have key : ∀ f args H r, absC bs f args H = some r → ∃ v q, r = .same v q ∧ (q → Does Tryz.prog f args H v H) := by
    intro f args H r h
    unfold absC at h
    split at h
    case h_2 => cases h
    rename_i d off n c
    obtain ⟨hf, hx⟩ := cond_some h
    clear h
    subst hx
    refine ⟨_, _, rfl, fun ⟨h1, h2, h3⟩ => ?_⟩
    subst h2 h3
    have := beqN hf
    subst this
    exact does73f h1 (by rw [List.drop_zero, show bs.length = (bytes bs).length by simp [bytes], List.take_length]) (by simp [bytes])
  refine ⟨fun f args H v c h hc => ?_, fun f args H v H' c h hc => ?_⟩
  · obtain ⟨_, _, h, k⟩ := key _ _ _ _ h; cases h; exact k hc
  · obtain ⟨_, _, h, k⟩ := key _ _ _ _ h; cases h

theorem r31 (d : Int) (bs : List Int) (n : Nat) (l : List (Nat × AObj)) : (ex3 Tryz.prog pCall (callO Tryz.prog (absC bs)) 60 (codeOf Tryz.f31 []) ⟨⟨[.int .u64 d, .slice (some ⟨0, 0, none⟩) n capG] ++ List.replicate 10 undef, mkH 1 [(0, .ro (bytes bs))] l, []⟩, True⟩).map (fin3 Tryz.prog Tryz.f31 [0])
   = some (⟨1, some (dig (sumS d bs)), 4, [.ro (bytes bs)], [(71, [])]⟩, (some (bytes bs) = some (bytes bs) ∧ 0 = 0 ∧ n = bs.length) ∧ True) := by kernel_rfl

theorem quiet71 : ([((71 : FuncId), ([] : List Value))].all fun d => quietDefer Tryz.prog d.1 && callable Tryz.prog d.1) = true := by kernel_rfl

theorem does31 (d : Int) (bs : List Int) : Does Tryz.prog 31 [.int .u64 d, .slice (some ⟨0, 0, none⟩) bs.length capG] ⟨1, [(0, .ro (bytes bs))]⟩ (dig (sumS d bs)) ⟨1, [(0, .ro (bytes bs))]⟩ := by
  refine val_of_awp Tryz.func31 (c := codeOf Tryz.f31 []) rfl (dig_c2 _) ?_
  refine pieceR3 hm pCall_sound (callO_sound absC_sound) 1 [(0, .ro (bytes bs))] rfl (fun p hp => by cases List.mem_singleton.1 hp; rfl) (r31 d bs bs.length) ⟨⟨rfl, rfl, rfl⟩, trivial⟩ ?_
  intro e T H1 he hr hn hg
  cases tag1 he
  refine ⟨.inr rfl, quiet71, _, hr, rfl, ⟨?_, fun id hid => ?_⟩⟩
  · rw [hn]; show 1 ≤ 4; omega
  · have : id = 0 := by have : id < 1 := hid; omega
    subst this
    exact hg (0, _) (List.mem_cons_self ..)

theorem does31f {H : Heap} {d : Int} {id off c : Nat} {cs : List Value} {bs : List Int} (hr : H.row id = some cs) (hw : (cs.drop off).take bs.length = bytes bs) (hb : off + bs.length ≤ cs.length) :
    Does Tryz.prog 31 [.int .u64 d, .slice (some ⟨id, off, none⟩) bs.length c] H (dig (sumS d bs)) H :=
  frame_val (does31 d bs) (dig_c2 _) (imp_slice (pre := [.int .u64 d]) (post := []) rfl rfl hr hw hb bytes_c2)
end Go.Abs

namespace Go.Abs
open Go.Proofs
set_option maxRecDepth 100000

def sl (id n : Nat) : Value := .slice (some ⟨id, 0, none⟩) n capG
def gr (cs : List Value) : AObj := .grow cs 5
def i64 (n : Int) : Value := .int .i64 n
def nilS : Value := .slice none 0 0
abbrev jX : Nat → Value := fun _ => jk

/-- Bytes that are appended one by one. -/
theorem appC1 {n : Nat} {cs : List Value} {v : Value} (hn : n ≤ cs.length) (hb : n ≤ 1000000000) (h1 : one v = true) : AppC 1 0 1 5 5 0 capG n 1 0 cs [v] :=
  ⟨rfl, by omega, by omega, by omega, rfl, rfl, rfl, by omega, by simp, fun x hx => by simp at hx; subst hx; exact h1⟩

/-- The zigzag of a number, and its groups of seven bits. -/
def zz0 (n : Int) : Int := IntKind.u64.wrap (IntKind.u64.wrap n * 2 ^ 1)
def zz (n : Int) : Int := if n < 0 then n64 (zz0 n) else zz0 n
def more (u : Int) : Int := IntKind.u8.wrap ((BitVec.ofInt 8 (IntKind.u8.wrap u) ||| BitVec.ofInt 8 128).toNat)
def vF : Nat → Int → List Int
  | 0, u => [IntKind.u8.wrap u]
  | f + 1, u => if 128 ≤ u then more u :: vF f (u.fdiv 128) else [IntKind.u8.wrap u]
def vint (n : Int) : List Int := vF 10 (zz n)

theorem wrap64 (x : Int) : 0 ≤ IntKind.u64.wrap x ∧ IntKind.u64.wrap x < 2 ^ 64 := by
  simp only [IntKind.wrap, IntKind.bits, IntKind.signed, Bool.false_and, Bool.false_eq_true, if_false]
  omega
theorem zz_lt (n : Int) : 0 ≤ zz n ∧ zz n < 2 ^ 64 := by
  unfold zz
  split
  · exact wrap64 _
  · exact wrap64 _

theorem vF_len : ∀ f u, (vF f u).length ≤ f + 1
  | 0, _ => by simp [vF]
  | f + 1, u => by
    unfold vF
    split
    · have := vF_len f (u.fdiv 128); simp; omega
    · simp
theorem vF_pos : ∀ f u, 0 < (vF f u).length
  | 0, _ => by simp [vF]
  | f + 1, u => by unfold vF; split <;> simp
theorem vint_len (n : Int) : (vint n).length ≤ 11 := vF_len 10 _
theorem vint_pos (n : Int) : 0 < (vint n).length := vF_pos 10 _

theorem more_eq (u : Int) (h : 0 ≤ u) : IntKind.u8.wrap (IntKind.u8.wrap (u.tmod 128) + 128) = more u := by
  have key : ∀ m : Fin 256, ((m.val % 128 + 128 : Nat) : Int) = ((BitVec.ofInt 8 (m.val : Int) ||| BitVec.ofInt 8 128).toNat : Int) := by decide
  have e1 : u.tmod 128 = u % 128 := Int.tmod_eq_emod_of_nonneg h
  have hm : (u % 256).toNat < 256 := by omega
  have hk := key ⟨(u % 256).toNat, hm⟩
  simp only at hk
  have e2 : (((u % 256).toNat : Nat) : Int) = u % 256 := by omega
  rw [e2] at hk
  unfold more
  simp only [IntKind.wrap, IntKind.bits, IntKind.signed, Bool.false_and, Bool.false_eq_true, if_false]
  rw [e1]
  have e3 : (2 : Int) ^ 8 = 256 := by decide
  simp only [e3]
  rw [← hk]
  omega

section f181
theorem r181a (n : Int) : (ex3 Tryz.prog pCall noOO 30 (pre 0 (codeOf Tryz.f181 [])) ⟨⟨[nilS, sl 0 1] ++ List.replicate 36 undef, ⟨1, [(0, .ro [i64 n])]⟩, []⟩, True⟩).map (obsQ [0,1])
  = some (⟨0, [nilS, sl 0 1], 38, ⟨1, [(0, .ro [i64 n])]⟩, []⟩, True) := by kernel_rfl
theorem r181b (H : Heap) : (ex3 Tryz.prog pCall noOO 30 (pre 0 (codeOf Tryz.f181 [1,0])) ⟨⟨mkT 38 [(0, nilS), (1, sl 0 1)] jX, H, []⟩, True⟩).map (obsQ [0,8,9,10])
  = some (⟨0, [nilS, sl 0 1, i64 1, i64 0], 38, H, []⟩, True) := by kernel_rfl
theorem r181c (n : Int) : (ex3 Tryz.prog pCall noOO 30 (pre 1 (codeOf Tryz.f181 [1,0,1,0,0])) ⟨⟨mkT 38 [(0, nilS), (8, sl 0 1), (9, i64 1), (10, i64 0)] jX, ⟨1, [(0, .ro [i64 n])]⟩, []⟩, True⟩).map (obsQ [0,8,9,10])
  = some (⟨0, [nilS, sl 0 1, i64 1, i64 0], 38, ⟨1, [(0, .ro [i64 n])]⟩, []⟩, True) := by kernel_rfl
theorem r181d (n : Int) : (ex3 Tryz.prog pCall noOO 30 (pre 1 (codeOf Tryz.f181 [1,0,1,0,0,1,1,0,0])) ⟨⟨mkT 38 [(0, nilS), (8, sl 0 1), (9, i64 1), (10, i64 0)] jX, ⟨1, [(0, .ro [i64 n])]⟩, []⟩, True⟩).map (obsQ [0,6,7,8,9,10])
  = some (⟨0, [nilS, i64 n, .int .u64 (zz0 n), sl 0 1, i64 1, i64 0], 38, ⟨1, [(0, .ro [i64 n])]⟩, []⟩, True) := by kernel_rfl
theorem r181e (n u : Int) (H : Heap) : (ex3 Tryz.prog pCall noOO 30 (pre 0 (codeOf Tryz.f181 [1,0,1,0,0,1,1,0,0,1,1,0])) ⟨⟨mkT 38 [(0, nilS), (6, i64 n), (7, .int .u64 u), (8, sl 0 1), (9, i64 1), (10, i64 0)] jX, H, []⟩, True⟩).map (obsQ [0,7,8,9,10,18])
  = some (⟨0, [nilS, .int .u64 u, sl 0 1, i64 1, i64 0, .bool (decide (n < 0))], 38, H, []⟩, True) := by kernel_rfl
theorem r181f (u : Int) (b : Value) (H : Heap) : (ex3 Tryz.prog pCall noOO 30 (codeOf Tryz.f181 [1,0,1,0,0,1,1,0,0,1,1,0,1,0]) ⟨⟨mkT 38 [(0, nilS), (7, .int .u64 u), (8, sl 0 1), (9, i64 1), (10, i64 0), (18, b)] jX, H, []⟩, True⟩).map (obsQ [0,7,8,9,10])
  = some (⟨0, [nilS, .int .u64 (n64 u), sl 0 1, i64 1, i64 0], 38, H, []⟩, True) := by kernel_rfl
theorem r181g (u : Int) (v : Value) (H : Heap) : (ex3 Tryz.prog pCall noOO 30 (pre 0 (codeOf Tryz.f181 [1,0,1,0,0,1,1,0,0,1,1,1,0,0,0,0])) ⟨⟨mkT 38 [(0, v), (7, .int .u64 u), (8, sl 0 1), (9, i64 1), (10, i64 0)] jX, H, []⟩, True⟩).map (obsQ [0,7,8,9,10,22])
  = some (⟨0, [v, .int .u64 u, sl 0 1, i64 1, i64 0, .bool (decide (128 ≤ u))], 38, H, []⟩, True) := by kernel_rfl
theorem r181h0 (n u : Int) (b : Value) : (ex3 Tryz.prog pCall noOO 30 (codeOf Tryz.f181 [1,0,1,0,0,1,1,0,0,1,1,1,0,0,0,1]) ⟨⟨mkT 38 [(0, nilS), (7, .int .u64 u), (8, sl 0 1), (9, i64 1), (10, i64 0), (22, b)] jX, ⟨1, [(0, .ro [i64 n])]⟩, []⟩, True⟩).map (obs3 [0,7,8,9,10] [0,2])
  = some (⟨0, [sl 2 1, .int .u64 (u.fdiv 128), sl 0 1, i64 1, i64 0], 38, 3, [.ro [i64 n], gr [.int .u8 (more u)]], []⟩, True) := by kernel_rfl
theorem r181h1 (n u : Int) (b : Value) (cs : List Value) (m : Nat) : (ex3 Tryz.prog pCall (appO Tryz.prog 28) 30 (codeOf Tryz.f181 [1,0,1,0,0,1,1,0,0,1,1,1,0,0,0,1]) ⟨⟨mkT 38 [(0, sl 1 m), (7, .int .u64 u), (8, sl 0 1), (9, i64 1), (10, i64 0), (22, b)] jX, mkH 2 [(0, .ro [i64 n]), (1, gr cs)] [], []⟩, True⟩).map (obs3 [0,7,8,9,10] [0,3])
  = some (⟨0, [sl 3 (m + 1), .int .u64 (u.fdiv 128), sl 0 1, i64 1, i64 0], 38, 4, [.ro [i64 n], gr (cs.take (m * 1) ++ [.int .u8 (more u)])], []⟩, AppC 1 0 1 5 5 0 capG m 1 0 cs [.int .u8 (more u)] ∧ True) := by kernel_rfl
theorem r181i0 (n u : Int) : (ex3 Tryz.prog pCall noOO 30 (codeOf Tryz.f181 [1,0,1,0,0,1,1,0,0,1,1,1,1]) ⟨⟨mkT 38 [(0, nilS), (7, .int .u64 u), (8, sl 0 1), (9, i64 1), (10, i64 0)] jX, ⟨1, [(0, .ro [i64 n])]⟩, []⟩, True⟩).map (obs3 [0,8,9,10] [0,2])
  = some (⟨0, [sl 2 1, sl 0 1, i64 1, i64 0], 38, 3, [.ro [i64 n], gr [.int .u8 (IntKind.u8.wrap u)]], []⟩, True) := by kernel_rfl
theorem r181i1 (n u : Int) (cs : List Value) (m : Nat) : (ex3 Tryz.prog pCall (appO Tryz.prog 35) 30 (codeOf Tryz.f181 [1,0,1,0,0,1,1,0,0,1,1,1,1]) ⟨⟨mkT 38 [(0, sl 1 m), (7, .int .u64 u), (8, sl 0 1), (9, i64 1), (10, i64 0)] jX, mkH 2 [(0, .ro [i64 n]), (1, gr cs)] [], []⟩, True⟩).map (obs3 [0,8,9,10] [0,3])
  = some (⟨0, [sl 3 (m + 1), sl 0 1, i64 1, i64 0], 38, 4, [.ro [i64 n], gr (cs.take (m * 1) ++ [.int .u8 (IntKind.u8.wrap u)])], []⟩, AppC 1 0 1 5 5 0 capG m 1 0 cs [.int .u8 (IntKind.u8.wrap u)] ∧ True) := by kernel_rfl
theorem r181j (n : Int) (cs : List Value) (m : Nat) : (ex3 Tryz.prog pCall noOO 30 (codeOf Tryz.f181 [1,0,1,0,0,1,1,1]) ⟨⟨mkT 38 [(0, sl 1 m), (8, sl 0 1), (9, i64 1), (10, i64 0)] jX, mkH 2 [(0, .ro [i64 n]), (1, gr cs)] [], []⟩, True⟩).map (obs3 [0,8,9,10] [0,1])
  = some (⟨0, [sl 1 m, sl 0 1, i64 1, i64 1], 38, 2, [.ro [i64 n], gr cs], []⟩, True) := by kernel_rfl
theorem r181k (m : Nat) (H : Heap) : (ex3 Tryz.prog pCall noOO 30 (pre 0 (codeOf Tryz.f181 [1,0,1,0,0])) ⟨⟨mkT 38 [(0, sl 1 m), (8, sl 0 1), (9, i64 1), (10, i64 1)] jX, H, []⟩, True⟩).map (obsQ [0,11])
  = some (⟨0, [sl 1 m, .bool false], 38, H, []⟩, True) := by kernel_rfl
theorem r181l (n : Int) (cs : List Value) (m : Nat) : (ex3 Tryz.prog pCall noOO 30 (codeOf Tryz.f181 [1,1]) ⟨⟨mkT 38 [(0, sl 1 m), (11, .bool false)] jX, mkH 2 [(0, .ro [i64 n]), (1, gr cs)] [], []⟩, True⟩).map (fin3 Tryz.prog Tryz.f181 [0,1])
  = some (⟨1, some (sl 1 m), 2, [.ro [i64 n], gr cs], []⟩, True) := by kernel_rfl
end f181

theorem RO.ro1 {σ : Nat → Option Nat} {v : Value} (h : c2 v = true) : RO σ (.ro [v]) (.ro [v]) := .ro (.cons (.closed h) .nil)
theorem RO.gr {σ : Nat → Option Nat} {bs : List Int} : RO σ (gr (bytes bs)) (gr (bytes bs)) := .grow (RV.all bytes_c2)
theorem RO.rob {σ : Nat → Option Nat} {bs : List Int} : RO σ (.ro (bytes bs)) (.ro (bytes bs)) := .ro (RV.all bytes_c2)
theorem bytes_snoc (bs : List Int) (x : Int) : (bytes bs).take (bs.length * 1) ++ [Value.int .u8 x] = bytes (bs ++ [x]) := by
  rw [Nat.mul_one, show bs.length = (bytes bs).length by simp [bytes], List.take_length]; simp [bytes]

/-- An accumulator that is nil at first. -/
def aV : List Int → Value
  | [] => nilS
  | _ :: l => sl 1 (l.length + 1)
def aH (o : AObj) : List Int → Heap
  | [] => ⟨1, [(0, o)]⟩
  | x :: l => mkH 2 [(0, o), (1, gr (bytes (x :: l)))] []
theorem aV_snoc (acc : List Int) (x : Int) : aV (acc ++ [x]) = sl 1 (acc.length + 1) := by
  cases acc with
  | nil => rfl
  | cons a l => simp [aV]
theorem aH_snoc (o : AObj) (acc : List Int) (x : Int) : aH o (acc ++ [x]) = mkH 2 [(0, o), (1, gr (bytes (acc ++ [x])))] [] := by
  cases acc with
  | nil => rfl
  | cons a l => rfl

abbrev T181 (u : Int) (v : Value) : List Value := mkT 38 [(0, v), (7, .int .u64 u), (8, sl 0 1), (9, i64 1), (10, i64 0)] jX

theorem body181 {Q : APost} (n u : Int) (b : Value) (acc : List Int) (hl : acc.length ≤ 100) (hQ : ∀ T H D, Nrm Tryz.prog 1 T H D (T181 (u.fdiv 128) (aV (acc ++ [more u]))) (aH (.ro [i64 n]) (acc ++ [more u])) [] → Q .normal T H D) :
    Awn Tryz.prog 1 (codeOf Tryz.f181 [1,0,1,0,0,1,1,0,0,1,1,1,0,0,0,1]) Q (mkT 38 [(0, aV acc), (7, .int .u64 u), (8, sl 0 1), (9, i64 1), (10, i64 0), (22, b)] jX) (aH (.ro [i64 n]) acc) [] := by
  cases acc with
  | nil => exact pieceE hm pCall_sound noOO_sound (r181h0 n u b) trivial rfl 2 [(1, 2)] rfl (.cons ⟨rfl, .ro1 rfl⟩ (.cons ⟨rfl, RO.gr (bs := [more u])⟩ .nil)) .nil hQ
  | cons a l =>
    refine pieceE hm pCall_sound appO_sound (r181h1 n u b (bytes (a :: l)) (l.length + 1)) ⟨appC1 (by simp [bytes]) (by simp at hl; omega) rfl, trivial⟩ rfl 2 [(1, 3)] (os2 := [(0, .ro [i64 n]), (1, gr (bytes (a :: l ++ [more u])))]) rfl (.cons ⟨rfl, .ro1 rfl⟩ (.cons ⟨rfl, ?_⟩ .nil)) .nil (fun T H D h => hQ T H D ?_)
    · have := bytes_snoc (a :: l) (more u)
      rw [show (a :: l).length = l.length + 1 from rfl] at this
      rw [this]; exact RO.gr
    · rw [aV_snoc, aH_snoc]; exact h

theorem end181 {Q : APost} (n u : Int) (acc : List Int) (hl : acc.length ≤ 100) (hQ : ∀ T H D, Nrm Tryz.prog 1 T H D (mkT 38 [(0, aV (acc ++ [IntKind.u8.wrap u])), (8, sl 0 1), (9, i64 1), (10, i64 0)] jX) (aH (.ro [i64 n]) (acc ++ [IntKind.u8.wrap u])) [] → Q .normal T H D) :
    Awn Tryz.prog 1 (codeOf Tryz.f181 [1,0,1,0,0,1,1,0,0,1,1,1,1]) Q (T181 u (aV acc)) (aH (.ro [i64 n]) acc) [] := by
  cases acc with
  | nil => exact pieceE hm pCall_sound noOO_sound (r181i0 n u) trivial rfl 2 [(1, 2)] rfl (.cons ⟨rfl, .ro1 rfl⟩ (.cons ⟨rfl, RO.gr (bs := [IntKind.u8.wrap u])⟩ .nil)) .nil hQ
  | cons a l =>
    refine pieceE hm pCall_sound appO_sound (r181i1 n u (bytes (a :: l)) (l.length + 1)) ⟨appC1 (by simp [bytes]) (by simp at hl; omega) rfl, trivial⟩ rfl 2 [(1, 3)] (os2 := [(0, .ro [i64 n]), (1, gr (bytes (a :: l ++ [IntKind.u8.wrap u])))]) rfl (.cons ⟨rfl, .ro1 rfl⟩ (.cons ⟨rfl, ?_⟩ .nil)) .nil (fun T H D h => hQ T H D ?_)
    · have := bytes_snoc (a :: l) (IntKind.u8.wrap u)
      rw [show (a :: l).length = l.length + 1 from rfl] at this
      rw [this]; exact RO.gr
    · rw [aV_snoc, aH_snoc]; exact h

theorem fdiv_lt {u : Int} {f : Nat} (h0 : 0 ≤ u) (h : u < 2 ^ (7 * (f + 1) + 7)) : 0 ≤ u.fdiv 128 ∧ u.fdiv 128 < 2 ^ (7 * f + 7) := by
  rw [Int.fdiv_eq_ediv_of_nonneg _ (by omega)]
  have e : (2 : Int) ^ (7 * (f + 1) + 7) = 2 ^ (7 * f + 7) * 128 := by
    rw [show 7 * (f + 1) + 7 = (7 * f + 7) + 7 by omega, Int.pow_add]; rfl
  rw [e] at h
  generalize (2 : Int) ^ (7 * f + 7) = q at h ⊢
  omega

theorem loop181 {Q : APost} (n u0 : Int) (h0 : 0 ≤ u0) (h1 : u0 < 2 ^ 64)
    (hQ : ∀ T H D, Nrm Tryz.prog 1 T H D (mkT 38 [(0, sl 1 (vF 10 u0).length), (8, sl 0 1), (9, i64 1), (10, i64 0)] jX) (mkH 2 [(0, .ro [i64 n]), (1, gr (bytes (vF 10 u0)))] []) [] → Q .normal T H D) :
    Awn Tryz.prog 1 (codeOf Tryz.f181 [1,0,1,0,0,1,1,0,0,1,1,1]) Q (T181 u0 nilS) ⟨1, [(0, .ro [i64 n])]⟩ [] := by
  refine awn_seq (x := codeOf Tryz.f181 [1,0,1,0,0,1,1,0,0,1,1,1,0]) (y := codeOf Tryz.f181 [1,0,1,0,0,1,1,0,0,1,1,1,1]) ?_
  refine awn_block (c := codeOf Tryz.f181 [1,0,1,0,0,1,1,0,0,1,1,1,0,0]) (awn_loop (c := codeOf Tryz.f181 [1,0,1,0,0,1,1,0,0,1,1,1,0,0,0])
    (fun f T H D => ∃ acc u, acc ++ vF f u = vF 10 u0 ∧ 0 ≤ u ∧ u < 2 ^ (7 * f + 7) ∧ acc.length + f ≤ 10 ∧ T = T181 u (aV acc) ∧ H = aH (.ro [i64 n]) acc ∧ D = [])
    10 ⟨_, _, _, .refl _ _ _ _ _, [], u0, rfl, h0, Int.lt_of_lt_of_le h1 (by decide), by simp, rfl, rfl, rfl⟩ ?_)
  rintro f T H D ⟨acc, u, hv, hu0, hu1, hlen, rfl, rfl, rfl⟩
  refine awn_seq (x := codeOf Tryz.f181 [1,0,1,0,0,1,1,0,0,1,1,1,0,0,0,0]) (y := codeOf Tryz.f181 [1,0,1,0,0,1,1,0,0,1,1,1,0,0,0,1]) ?_
  refine pieceT hm pCall_sound noOO_sound 0 (r181g u _ _) rfl trivial rfl ?_
  refine awn_cond (c := .tmp 22) (b := decide (128 ≤ u)) rfl rfl ?_
  by_cases hc : 128 ≤ u
  · rw [decide_eq_true hc]
    refine awn_skip ?_
    cases f with
    | zero => simp at hu1; omega
    | succ f =>
      have ⟨q1, q2⟩ := fdiv_lt hu0 hu1
      refine body181 n u _ acc (by omega) fun T H D h => ⟨f, by omega, _, _, _, h, acc ++ [more u], u.fdiv 128, ?_, q1, q2, by simp; omega, rfl, rfl, rfl⟩
      rw [← hv, vF, if_pos hc]; simp
  · rw [decide_eq_false hc]
    refine awn_exit ?_
    refine awn_nrm (nrm_drop 5) ?_
    have hv2 : vF f u = [IntKind.u8.wrap u] := by
      cases f with
      | zero => rfl
      | succ f => rw [vF, if_neg hc]
    rw [hv2] at hv
    refine end181 n u acc (by omega) fun T H D h => hQ T H D ?_
    rw [aV_snoc, aH_snoc] at h
    rw [← hv, List.length_append]
    exact h

theorem keep1 {o : AObj} {H : Heap} (h1 : 1 ≤ H.next) (h2 : H.get 0 = o) : Keep ⟨1, [(0, o)]⟩ H := ⟨h1, fun id hid => by
  have : id = 0 := by have : id < 1 := hid; omega
  subst this
  rw [h2]; rfl⟩

theorem does181 (n : Int) : Does Tryz.prog 181 [nilS, sl 0 1] ⟨1, [(0, .ro [i64 n])]⟩ (.slice (some ⟨1, 0, none⟩) (vint n).length capG) ((⟨1, [(0, .ro [i64 n])]⟩ : Heap).push (gr (bytes (vint n)))) := by
  refine new_of_awp Tryz.func181 (c := codeOf Tryz.f181 []) rfl bytes_c2 (awp_of_awn (n := 1) ?_ (Nat.le_refl _))
  refine pieceT hm pCall_sound noOO_sound 0 (r181a n) rfl trivial rfl ?_
  refine awn_seq (x := codeOf Tryz.f181 [1,0]) (y := codeOf Tryz.f181 [1,1]) ?_
  refine pieceT hm pCall_sound noOO_sound 0 (r181b _) rfl trivial rfl ?_
  refine awn_block (c := codeOf Tryz.f181 [1,0,1,0]) (awn_loop (c := codeOf Tryz.f181 [1,0,1,0,0])
    (fun k T H D => D = [] ∧ ((k = 1 ∧ T = mkT 38 [(0, nilS), (8, sl 0 1), (9, i64 1), (10, i64 0)] jX ∧ H = ⟨1, [(0, .ro [i64 n])]⟩) ∨
      (k = 0 ∧ T = mkT 38 [(0, sl 1 (vint n).length), (8, sl 0 1), (9, i64 1), (10, i64 1)] jX ∧ H = mkH 2 [(0, .ro [i64 n]), (1, gr (bytes (vint n)))] [])))
    1 ⟨_, _, _, .refl _ _ _ _ _, rfl, .inl ⟨rfl, rfl, rfl⟩⟩ ?_)
  rintro k T H D ⟨rfl, ⟨rfl, rfl, rfl⟩ | ⟨rfl, rfl, rfl⟩⟩
  · refine pieceT hm pCall_sound noOO_sound 1 (r181c n) rfl trivial rfl ?_
    refine awn_seq (x := codeOf Tryz.f181 [1,0,1,0,0,1,1,0]) (y := codeOf Tryz.f181 [1,0,1,0,0,1,1,1]) ?_
    refine awn_block (c := codeOf Tryz.f181 [1,0,1,0,0,1,1,0,0]) ?_
    refine pieceT hm pCall_sound noOO_sound 1 (r181d n) rfl trivial rfl ?_
    refine awn_seq (x := codeOf Tryz.f181 [1,0,1,0,0,1,1,0,0,1,1,0]) (y := codeOf Tryz.f181 [1,0,1,0,0,1,1,0,0,1,1,1]) ?_
    refine pieceT hm pCall_sound noOO_sound 0 (r181e n _ _) rfl trivial rfl ?_
    refine awn_cond (c := .tmp 18) (b := decide (n < 0)) rfl rfl ?_
    by_cases hn : n < 0
    · rw [decide_eq_true hn]
      have hz : zz n = n64 (zz0 n) := by simp [zz, hn]
      have hl := zz_lt n
      rw [hz] at hl
      refine awn_mono (Q := fun ex T' H' D' => ex = .normal ∧ Nrm Tryz.prog 1 T' H' D' (T181 (n64 (zz0 n)) nilS) ⟨1, [(0, .ro [i64 n])]⟩ []) (awn_of (pieceQ hm pCall_sound noOO_sound (r181f (zz0 n) _ _) trivial ?_)) ?_
      · intro e X he
        cases tag0 he
        exact ⟨rfl, nrm_T⟩
      · rintro e T H D ⟨rfl, hN⟩
        refine awn_nrm hN (loop181 n _ hl.1 hl.2 fun T H D h => ?_)
        refine awn_nrm h ?_
        refine pieceE hm pCall_sound noOO_sound (r181j n _ _) trivial rfl 2 [(1, 1)] (os2 := [(0, .ro [i64 n]), (1, gr (bytes _))]) rfl (.cons ⟨rfl, .ro1 rfl⟩ (.cons ⟨rfl, RO.gr⟩ .nil)) .nil (fun T H D h => ⟨0, by omega, _, _, _, h, rfl, .inr ⟨rfl, ?_, ?_⟩⟩)
        · rw [vint, hz]; rfl
        · rw [vint, hz]
    · rw [decide_eq_false hn]
      have hz : zz n = zz0 n := by simp [zz, hn]
      have hl := zz_lt n
      rw [hz] at hl
      refine awn_skip ?_
      refine awn_nrm (nrm_drop 5) ?_
      refine loop181 n _ hl.1 hl.2 fun T H D h => ?_
      refine awn_nrm h ?_
      refine pieceE hm pCall_sound noOO_sound (r181j n _ _) trivial rfl 2 [(1, 1)] (os2 := [(0, .ro [i64 n]), (1, gr (bytes _))]) rfl (.cons ⟨rfl, .ro1 rfl⟩ (.cons ⟨rfl, RO.gr⟩ .nil)) .nil (fun T H D h => ⟨0, by omega, _, _, _, h, rfl, .inr ⟨rfl, ?_, ?_⟩⟩)
      · rw [vint, hz]; rfl
      · rw [vint, hz]
  · refine pieceT hm pCall_sound noOO_sound 0 (r181k _ _) rfl trivial rfl ?_
    refine awn_seq (awn_cond (c := .tmp 11) (b := false) rfl rfl ?_)
    refine awn_exit ?_
    refine pieceF hm pCall_sound noOO_sound (r181l n _ _) trivial ?_
    intro e T H he hr hn hg
    cases tag1 he
    refine ⟨.inr rfl, rfl, _, hr, ⟨1, rfl, Nat.le_refl _, hg (1, _) (.tail _ (.head _))⟩, keep1 (by rw [hn]; show 1 ≤ 2; omega) (hg (0, _) (.head _))⟩
end Go.Abs

namespace Go.Abs
open Go.Proofs
set_option maxRecDepth 100000

def vints (l : List Int) : List Int := l.flatMap vint
theorem vints_len : ∀ l : List Int, (vints l).length ≤ 11 * l.length
  | [] => by simp [vints]
  | a :: l => by
    have h1 := vints_len l
    have h2 := vint_len a
    simp only [vints, List.flatMap_cons, List.length_append, List.length_cons] at h1 ⊢
    omega

theorem take_bytes (bs : List Int) : (bytes bs).take (bs.length * 1) = bytes bs := by
  rw [Nat.mul_one, show bs.length = (bytes bs).length by simp [bytes], List.take_length]
theorem bytes_append (a b : List Int) : bytes (a ++ b) = bytes a ++ bytes b := by simp [bytes]
theorem bytes_len (a : List Int) : (bytes a).length = a.length := by simp [bytes]
theorem bytes_one {bs : List Int} : ∀ v ∈ bytes bs, one v = true := by
  intro v hv
  obtain ⟨b, _, rfl⟩ := List.mem_map.1 hv
  rfl
theorem appN_bytes {bs : List Int} (h0 : 0 < bs.length) (h : bs.length ≤ 1000000000) : AppN 1 0 1 bs.length 0 (bytes bs) := ⟨rfl, h0, by omega, by omega, by simp [bytes]⟩
theorem appC_bytes {bs cs : List Int} (h0 : 0 < cs.length) (h : bs.length + cs.length ≤ 1000000000) : AppC 1 0 1 5 5 0 capG bs.length cs.length 0 (bytes bs) (bytes cs) :=
  ⟨rfl, h0, by omega, by omega, rfl, rfl, rfl, by simp [bytes], by simp [bytes], fun v hv => bytes_one v (List.mem_of_mem_drop (List.mem_of_mem_take hv))⟩

/-- What is written number by number. -/
def encN : Nat → List Int → Nat
  | n, [] => n
  | n, b :: l => encN (n + (vint b).length) l
def encC : Nat → List Value → List Int → List Value
  | _, cs, [] => cs
  | n, cs, b :: l => encC (n + (vint b).length) (cs.take (n * 1) ++ ((bytes (vint b)).drop 0).take ((vint b).length * 1)) l
def encL : Nat → List Value → List Int → Prop → Prop
  | _, _, [], L => L
  | n, cs, b :: l, L => encL (n + (vint b).length) (cs.take (n * 1) ++ ((bytes (vint b)).drop 0).take ((vint b).length * 1)) l (((AppC 1 0 1 5 5 0 capG n (vint b).length 0 cs (bytes (vint b)) ∧ True) ∧ True ∧ True) ∧ L)

theorem enc_all : ∀ (l : List Int) (xs : List Int) (L : Prop), xs.length + 11 * l.length ≤ 1000000 → L → encN xs.length l = (xs ++ vints l).length ∧ encC xs.length (bytes xs) l = bytes (xs ++ vints l) ∧ encL xs.length (bytes xs) l L
  | [], xs, L, _, hL => by simp [encN, encC, encL, vints, hL]
  | b :: l, xs, L, h, hL => by
    have h1 := vint_len b
    have h2 := vint_pos b
    simp only [List.length_cons] at h
    have e : (bytes xs).take (xs.length * 1) ++ ((bytes (vint b)).drop 0).take ((vint b).length * 1) = bytes (xs ++ vint b) := by
      rw [List.drop_zero, take_bytes, take_bytes, bytes_append]
    have el : xs.length + (vint b).length = (xs ++ vint b).length := by simp
    simp only [encN, encC, encL, e, el]
    have := enc_all l (xs ++ vint b) (((AppC 1 0 1 5 5 0 capG xs.length (vint b).length 0 (bytes xs) (bytes (vint b)) ∧ True) ∧ True ∧ True) ∧ L) (by simp; omega) ⟨⟨⟨appC_bytes h2 (by omega), trivial⟩, trivial, trivial⟩, hL⟩
    simpa [vints, List.append_assoc] using this

/-- codec.ints of one number, by its contract. -/
def intsG : List Value → Heap → Option CallR := fun args H => match args with
  | [.slice none 0 0, .slice (some ⟨id, 0, none⟩) 1 _] => match H.row id with
    | some [.int .i64 n] => some (.eff (sl H.next (vint n).length) (H.push (gr (bytes (vint n)))) True)
    | _ => none
  | _ => none
theorem intsG_sound : SoundC Tryz.prog (oneC 181 intsG) := oneC_sound fun args H r h => by
  unfold intsG at h
  split at h
  case h_2 => cases h
  rename_i id c
  split at h
  case h_2 => cases h
  rename_i n hr
  cases h
  intro _
  exact frame_new (does181 n) rfl bytes_c2 (imp_slice (pre := [nilS]) (post := []) (m := 1) rfl rfl hr rfl (by simp) (fun v hv => by simp at hv; subst hv; rfl))

noncomputable def oo124 : OpO := orO (callO Tryz.prog (oneC 181 intsG)) (callO Tryz.prog (inC Tryz.prog pCall (appZ Tryz.prog 12) 30 [150]))
theorem oo124_sound : SoundO Tryz.prog oo124 := orO_sound (callO_sound intsG_sound) (callO_sound (inC_sound hm pCall_sound appZ_sound))

theorem r124 (n : Int) : (ex3 Tryz.prog pCall oo124 30 (codeOf Tryz.f124 []) ⟨⟨[nilS, i64 n] ++ List.replicate 8 undef, ⟨0, []⟩, []⟩, True⟩).map (fin3 Tryz.prog Tryz.f124 [2])
  = some (⟨1, some (sl 2 (vint n).length), 3, [gr (((bytes (vint n)).drop 0).take ((vint n).length * 1))], [(180, [])]⟩, (AppN 1 0 1 (vint n).length 0 (bytes (vint n)) ∧ True) ∧ True ∧ True) := by kernel_rfl
theorem quiet180 : ([((180 : FuncId), ([] : List Value))].all fun d => quietDefer Tryz.prog d.1 && callable Tryz.prog d.1) = true := by kernel_rfl

theorem keep0 (H : Heap) : Keep ⟨0, []⟩ H := ⟨Nat.zero_le _, fun id hid => absurd hid (Nat.not_lt_zero _)⟩

theorem does124 (n : Int) : Does Tryz.prog 124 [nilS, i64 n] ⟨0, []⟩ (.slice (some ⟨0, 0, none⟩) (vint n).length capG) ((⟨0, []⟩ : Heap).push (gr (bytes (vint n)))) := by
  refine new_of_awp Tryz.func124 (c := codeOf Tryz.f124 []) rfl bytes_c2 (awp_of_awn (n := 0) ?_ (Nat.le_refl _))
  refine pieceF hm pCall_sound oo124_sound (r124 n) ⟨⟨appN_bytes (vint_pos n) (by have := vint_len n; omega), trivial⟩, trivial, trivial⟩ ?_
  intro e T H he hr hn hg
  cases tag1 he
  refine ⟨.inr rfl, quiet180, _, hr, ⟨2, rfl, Nat.zero_le _, ?_⟩, keep0 _⟩
  have := hg (2, _) (.head _)
  rw [this, List.drop_zero, take_bytes]; rfl

def int124G : List Value → Heap → Option CallR := fun args H => match args with
  | [.slice none 0 0, .int .i64 n] => some (.eff (sl H.next (vint n).length) (H.push (gr (bytes (vint n)))) True)
  | _ => none
theorem int124G_sound : SoundC Tryz.prog (oneC 124 int124G) := oneC_sound fun args H r h => by
  unfold int124G at h
  split at h
  case h_2 => cases h
  cases h
  intro _
  exact frame_new (does124 _) rfl bytes_c2 (imp_closed H rfl)

noncomputable def oo495 : OpO := orO (appO Tryz.prog 10) (appZ Tryz.prog 10)
noncomputable def oo70 : OpO := orO (callO Tryz.prog (oneC 124 int124G)) (callO Tryz.prog (inC Tryz.prog pCall oo495 30 [495]))
noncomputable def oo30 : OpO := callO Tryz.prog (inC Tryz.prog pCall oo70 30 [70])
theorem oo30_sound : SoundO Tryz.prog oo30 := callO_sound (inC_sound hm pCall_sound (orO_sound (callO_sound int124G_sound) (callO_sound (inC_sound hm pCall_sound (orO_sound appO_sound appZ_sound)))))

def encB (a : Int) : Prop := ((AppN 1 0 1 (vint a).length 0 (bytes (vint a)) ∧ True) ∧ True ∧ True) ∧ True
def enc0 (a : Int) : List Value := ((bytes (vint a)).drop 0).take ((vint a).length * 1)
def i64s (l : List Int) : List Value := l.map (.int .i64)

theorem r30_2 (a b : Int) : (ex3 Tryz.prog pCall oo30 90 (codeOf Tryz.f30 []) ⟨⟨[sl 0 2] ++ List.replicate 17 undef, ⟨1, [(0, .ro (i64s [a, b]))]⟩, []⟩, True⟩).map (fin3 Tryz.prog Tryz.f30 [0,5])
  = some (⟨1, some (sl 5 (encN (vint a).length [b])), 6, [.ro (i64s [a, b]), gr (encC (vint a).length (enc0 a) [b])], []⟩, encL (vint a).length (enc0 a) [b] (encB a)) := by kernel_rfl
theorem does30_2 (a b : Int) : Does Tryz.prog 30 [sl 0 2] ⟨1, [(0, .ro (i64s [a, b]))]⟩ (.slice (some ⟨1, 0, none⟩) (vints [a, b]).length capG) ((⟨1, [(0, .ro (i64s [a, b]))]⟩ : Heap).push (gr (bytes (vints [a, b])))) := by
  have h1 := vint_len a
  have e0 : enc0 a = bytes (vint a) := by rw [enc0, List.drop_zero, take_bytes]
  have hall := enc_all [b] (vint a) (encB a) (by simp; omega) ⟨⟨⟨appN_bytes (vint_pos a) (by omega), trivial⟩, trivial, trivial⟩, trivial⟩
  have ev : vint a ++ vints [b] = vints [a, b] := by simp [vints]
  rw [ev] at hall
  have hr := r30_2 a b
  rw [e0, hall.1, hall.2.1] at hr
  refine new_of_awp Tryz.func30 (c := codeOf Tryz.f30 []) rfl bytes_c2 (awp_of_awn (n := 1) ?_ (Nat.le_refl _))
  refine pieceF hm pCall_sound oo30_sound hr hall.2.2 ?_
  intro e T H he hr hn hg
  cases tag1 he
  exact ⟨.inr rfl, rfl, _, hr, ⟨5, rfl, by show 1 ≤ 5; omega, hg (5, _) (.tail _ (.head _))⟩, keep1 (by rw [hn]; show 1 ≤ 6; omega) (hg (0, _) (.head _))⟩

theorem r30_5 (a b c d e : Int) : (ex3 Tryz.prog pCall oo30 90 (codeOf Tryz.f30 []) ⟨⟨[sl 0 5] ++ List.replicate 17 undef, ⟨1, [(0, .ro (i64s [a, b, c, d, e]))]⟩, []⟩, True⟩).map (fin3 Tryz.prog Tryz.f30 [0,11])
  = some (⟨1, some (sl 11 (encN (vint a).length [b, c, d, e])), 12, [.ro (i64s [a, b, c, d, e]), gr (encC (vint a).length (enc0 a) [b, c, d, e])], []⟩, encL (vint a).length (enc0 a) [b, c, d, e] (encB a)) := by kernel_rfl
theorem does30_5 (a b c d e : Int) : Does Tryz.prog 30 [sl 0 5] ⟨1, [(0, .ro (i64s [a, b, c, d, e]))]⟩ (.slice (some ⟨1, 0, none⟩) (vints [a, b, c, d, e]).length capG) ((⟨1, [(0, .ro (i64s [a, b, c, d, e]))]⟩ : Heap).push (gr (bytes (vints [a, b, c, d, e])))) := by
  have h1 := vint_len a
  have e0 : enc0 a = bytes (vint a) := by rw [enc0, List.drop_zero, take_bytes]
  have hall := enc_all [b, c, d, e] (vint a) (encB a) (by simp; omega) ⟨⟨⟨appN_bytes (vint_pos a) (by omega), trivial⟩, trivial, trivial⟩, trivial⟩
  have ev : vint a ++ vints [b, c, d, e] = vints [a, b, c, d, e] := by simp [vints]
  rw [ev] at hall
  have hr := r30_5 a b c d e
  rw [e0, hall.1, hall.2.1] at hr
  refine new_of_awp Tryz.func30 (c := codeOf Tryz.f30 []) rfl bytes_c2 (awp_of_awn (n := 1) ?_ (Nat.le_refl _))
  refine pieceF hm pCall_sound oo30_sound hr hall.2.2 ?_
  intro e T H he hr hn hg
  cases tag1 he
  exact ⟨.inr rfl, rfl, _, hr, ⟨11, rfl, by show 1 ≤ 11; omega, hg (11, _) (.tail _ (.head _))⟩, keep1 (by rw [hn]; show 1 ≤ 12; omega) (hg (0, _) (.head _))⟩

theorem r30_6 (a b c d e f : Int) : (ex3 Tryz.prog pCall oo30 90 (codeOf Tryz.f30 []) ⟨⟨[sl 0 6] ++ List.replicate 17 undef, ⟨1, [(0, .ro (i64s [a, b, c, d, e, f]))]⟩, []⟩, True⟩).map (fin3 Tryz.prog Tryz.f30 [0,13])
  = some (⟨1, some (sl 13 (encN (vint a).length [b, c, d, e, f])), 14, [.ro (i64s [a, b, c, d, e, f]), gr (encC (vint a).length (enc0 a) [b, c, d, e, f])], []⟩, encL (vint a).length (enc0 a) [b, c, d, e, f] (encB a)) := by kernel_rfl
theorem does30_6 (a b c d e f : Int) : Does Tryz.prog 30 [sl 0 6] ⟨1, [(0, .ro (i64s [a, b, c, d, e, f]))]⟩ (.slice (some ⟨1, 0, none⟩) (vints [a, b, c, d, e, f]).length capG) ((⟨1, [(0, .ro (i64s [a, b, c, d, e, f]))]⟩ : Heap).push (gr (bytes (vints [a, b, c, d, e, f])))) := by
  have h1 := vint_len a
  have e0 : enc0 a = bytes (vint a) := by rw [enc0, List.drop_zero, take_bytes]
  have hall := enc_all [b, c, d, e, f] (vint a) (encB a) (by simp; omega) ⟨⟨⟨appN_bytes (vint_pos a) (by omega), trivial⟩, trivial, trivial⟩, trivial⟩
  have ev : vint a ++ vints [b, c, d, e, f] = vints [a, b, c, d, e, f] := by simp [vints]
  rw [ev] at hall
  have hr := r30_6 a b c d e f
  rw [e0, hall.1, hall.2.1] at hr
  refine new_of_awp Tryz.func30 (c := codeOf Tryz.f30 []) rfl bytes_c2 (awp_of_awn (n := 1) ?_ (Nat.le_refl _))
  refine pieceF hm pCall_sound oo30_sound hr hall.2.2 ?_
  intro e T H he hr hn hg
  cases tag1 he
  exact ⟨.inr rfl, rfl, _, hr, ⟨13, rfl, by show 1 ≤ 13; omega, hg (13, _) (.tail _ (.head _))⟩, keep1 (by rw [hn]; show 1 ≤ 14; omega) (hg (0, _) (.head _))⟩


def un64 : List Value → Option (List Int)
  | [] => some []
  | .int .i64 b :: vs => match un64 vs with
    | some bs => some (b :: bs)
    | none => none
  | _ => none
theorem un64_eq : ∀ {vs : List Value} {bs : List Int}, un64 vs = some bs → vs = i64s bs
  | [], bs, h => by cases h; rfl
  | v :: vs, bs, h => by
    unfold un64 at h
    split at h
    · rename_i heq; cases heq
    · rename_i b vs' heq
      cases heq
      split at h
      · rename_i bs' hb; cases h; rw [un64_eq hb]; rfl
      · cases h
    · cases h
theorem i64s_c2 {bs : List Int} : ∀ v ∈ i64s bs, c2 v = true := by
  intro v hv
  obtain ⟨b, _, rfl⟩ := List.mem_map.1 hv
  rfl
def ok256 (k : Nat) : Bool := Nat.beq k 2 || Nat.beq k 5 || Nat.beq k 6
theorem list2 {bs : List Int} (h : bs.length = 2) : ∃ a b, bs = [a, b] := by
  match bs, h with
  | [a, b], _ => exact ⟨_, _, rfl⟩
theorem list5 {bs : List Int} (h : bs.length = 5) : ∃ a b c d e, bs = [a, b, c, d, e] := by
  match bs, h with
  | [a, b, c, d, e], _ => exact ⟨_, _, _, _, _, rfl⟩
theorem list6 {bs : List Int} (h : bs.length = 6) : ∃ a b c d e f, bs = [a, b, c, d, e, f] := by
  match bs, h with
  | [a, b, c, d, e, f], _ => exact ⟨_, _, _, _, _, _, rfl⟩

/-- manifest.encode of two, five or six numbers, by its contract. -/
def encG : List Value → Heap → Option CallR := fun args H => match args with
  | [.slice (some ⟨id, 0, none⟩) k _] => match H.row id with
    | some cs => match un64 cs with
      | some ns => bif ok256 k && Nat.beq ns.length k then some (.eff (sl H.next (vints ns).length) (H.push (gr (bytes (vints ns)))) True) else none
      | none => none
    | none => none
  | _ => none
theorem encG_sound : SoundC Tryz.prog (oneC 30 encG) := oneC_sound fun args H r h => by
  unfold encG at h
  split at h
  case h_2 => cases h
  rename_i id k c
  split at h
  case h_2 => cases h
  rename_i cs hr
  split at h
  case h_2 => cases h
  rename_i ns hns
  obtain ⟨hb, hx⟩ := cond_some h
  subst hx
  intro _
  simp only [Bool.and_eq_true, ok256, Bool.or_eq_true] at hb
  have hk := beqN hb.2
  have hcs := un64_eq hns
  subst hcs
  have himp : ∀ n, ns.length = n → Imp Tryz.prog [.slice (some ⟨id, 0, none⟩) n c] H [sl 0 n] ⟨1, [(0, .ro (i64s ns))]⟩ := fun n hn => by
    refine imp_slice (pre := []) (post := []) (m := n) rfl rfl hr ?_ (by simp [i64s, hn]) i64s_c2
    rw [List.drop_zero, ← hn, show ns.length = (i64s ns).length by simp [i64s], List.take_length]
  rcases hb.1 with (h2 | h5) | h6
  · have := beqN h2; subst this
    obtain ⟨a, b, rfl⟩ := list2 hk
    exact frame_new (does30_2 a b) rfl bytes_c2 (himp 2 hk)
  · have := beqN h5; subst this
    obtain ⟨a, b, x, y, z, rfl⟩ := list5 hk
    exact frame_new (does30_5 a b x y z) rfl bytes_c2 (himp 5 hk)
  · have := beqN h6; subst this
    obtain ⟨a, b, x, y, z, t, rfl⟩ := list6 hk
    exact frame_new (does30_6 a b x y z t) rfl bytes_c2 (himp 6 hk)
end Go.Abs

namespace Go.Abs
open Go.Proofs
set_option maxRecDepth 100000

/-- An accumulator that is empty at first. -/
def emS : Value := .slice (some ⟨0, 0, none⟩) 0 0
def bV : List Int → Value
  | [] => emS
  | _ :: l => sl 0 (l.length + 1)
def bH : List Int → Heap
  | [] => mkH 1 [(0, .cells [] 5)] []
  | x :: l => mkH 1 [(0, gr (bytes (x :: l)))] []
theorem bV_snoc (acc : List Int) (x : Int) : bV (acc ++ [x]) = sl 0 (acc.length + 1) := by
  cases acc with
  | nil => rfl
  | cons a l => simp [bV]
theorem bH_snoc (acc : List Int) (x : Int) : bH (acc ++ [x]) = mkH 1 [(0, gr (bytes (acc ++ [x])))] [] := by
  cases acc with
  | nil => rfl
  | cons a l => rfl

def mor2 (u : Int) : Int := IntKind.u8.wrap (IntKind.u8.wrap (u.tmod 128) + 128)
def div2 (u : Int) : Int := IntKind.u64.wrap (u.tdiv 128)
theorem div2_eq {u : Int} (h0 : 0 ≤ u) (h1 : u < 2 ^ 64) : div2 u = u.fdiv 128 := by
  have e1 : u.tdiv 128 = u / 128 := Int.tdiv_eq_ediv_of_nonneg h0
  rw [div2, Int.fdiv_eq_ediv_of_nonneg _ (by omega), e1]
  simp only [IntKind.wrap, IntKind.bits, IntKind.signed, Bool.false_and, Bool.false_eq_true, if_false]
  omega

abbrev T129 (u : Int) (v : Value) : List Value := mkT 29 [(3, .int .u64 u), (4, v)] jX

theorem r129a (n : Int) : (ex3 Tryz.prog pCall noOO 30 (pre 1 (codeOf Tryz.f129 [])) ⟨⟨[i64 n] ++ List.replicate 28 undef, ⟨0, []⟩, []⟩, True⟩).map (obsQ [0,3])
  = some (⟨0, [i64 n, .int .u64 (zz0 n)], 29, ⟨0, []⟩, []⟩, True) := by kernel_rfl
theorem r129b (n u : Int) (H : Heap) : (ex3 Tryz.prog pCall noOO 30 (pre 0 (codeOf Tryz.f129 [1,1,0])) ⟨⟨mkT 29 [(0, i64 n), (3, .int .u64 u)] jX, H, []⟩, True⟩).map (obsQ [3,9])
  = some (⟨0, [.int .u64 u, .bool (decide (n < 0))], 29, H, []⟩, True) := by kernel_rfl
theorem r129c (u : Int) (b : Value) (H : Heap) : (ex3 Tryz.prog pCall noOO 30 (codeOf Tryz.f129 [1,1,0,1,0]) ⟨⟨mkT 29 [(3, .int .u64 u), (9, b)] jX, H, []⟩, True⟩).map (obsQ [3])
  = some (⟨0, [.int .u64 (n64 u)], 29, H, []⟩, True) := by kernel_rfl
theorem r129d (u : Int) : (ex3 Tryz.prog pCall noOO 30 (pre 0 (codeOf Tryz.f129 [1,1,1])) ⟨⟨mkT 29 [(3, .int .u64 u)] jX, ⟨0, []⟩, []⟩, True⟩).map (obs3 [3,4] [0])
  = some (⟨0, [.int .u64 u, emS], 29, 1, [.cells [] 5], []⟩, True) := by kernel_rfl
theorem r129g (u : Int) (v : Value) (H : Heap) : (ex3 Tryz.prog pCall noOO 30 (pre 0 (codeOf Tryz.f129 [1,1,1,1,0,0,0,0])) ⟨⟨T129 u v, H, []⟩, True⟩).map (obsQ [3,4,14])
  = some (⟨0, [.int .u64 u, v, .bool (decide (128 ≤ u))], 29, H, []⟩, True) := by kernel_rfl
theorem r129h0 (u : Int) (b : Value) : (ex3 Tryz.prog pCall noOO 30 (codeOf Tryz.f129 [1,1,1,1,0,0,0,1]) ⟨⟨mkT 29 [(3, .int .u64 u), (4, emS), (14, b)] jX, mkH 1 [(0, .cells [] 5)] [], []⟩, True⟩).map (obs3 [3,4] [2])
  = some (⟨0, [.int .u64 (div2 u), sl 2 1], 29, 3, [gr [.int .u8 (mor2 u)]], []⟩, True) := by kernel_rfl
theorem r129h1 (u : Int) (b : Value) (cs : List Value) (m : Nat) : (ex3 Tryz.prog pCall (appO Tryz.prog 21) 30 (codeOf Tryz.f129 [1,1,1,1,0,0,0,1]) ⟨⟨mkT 29 [(3, .int .u64 u), (4, sl 0 m), (14, b)] jX, mkH 1 [(0, gr cs)] [], []⟩, True⟩).map (obs3 [3,4] [2])
  = some (⟨0, [.int .u64 (div2 u), sl 2 (m + 1)], 29, 3, [gr (cs.take (m * 1) ++ [.int .u8 (mor2 u)])], []⟩, AppC 1 0 1 5 5 0 capG m 1 0 cs [.int .u8 (mor2 u)] ∧ True) := by kernel_rfl
theorem r129i0 (u : Int) : (ex3 Tryz.prog pCall noOO 30 (codeOf Tryz.f129 [1,1,1,1,1]) ⟨⟨T129 u emS, mkH 1 [(0, .cells [] 5)] [], []⟩, True⟩).map (fin3 Tryz.prog Tryz.f129 [2])
  = some (⟨1, some (sl 2 1), 3, [gr [.int .u8 (IntKind.u8.wrap u)]], []⟩, True) := by kernel_rfl
theorem r129i1 (u : Int) (cs : List Value) (m : Nat) : (ex3 Tryz.prog pCall (appO Tryz.prog 28) 30 (codeOf Tryz.f129 [1,1,1,1,1]) ⟨⟨T129 u (sl 0 m), mkH 1 [(0, gr cs)] [], []⟩, True⟩).map (fin3 Tryz.prog Tryz.f129 [2])
  = some (⟨1, some (sl 2 (m + 1)), 3, [gr (cs.take (m * 1) ++ [.int .u8 (IntKind.u8.wrap u)])], []⟩, AppC 1 0 1 5 5 0 capG m 1 0 cs [.int .u8 (IntKind.u8.wrap u)] ∧ True) := by kernel_rfl

theorem body129 {Q : APost} (u : Int) (b : Value) (acc : List Int) (hl : acc.length ≤ 100) (hQ : ∀ T H D, Nrm Tryz.prog 0 T H D (T129 (div2 u) (bV (acc ++ [mor2 u]))) (bH (acc ++ [mor2 u])) [] → Q .normal T H D) :
    Awn Tryz.prog 0 (codeOf Tryz.f129 [1,1,1,1,0,0,0,1]) Q (mkT 29 [(3, .int .u64 u), (4, bV acc), (14, b)] jX) (bH acc) [] := by
  cases acc with
  | nil => exact pieceE hm pCall_sound noOO_sound (r129h0 u b) trivial rfl 1 [(0, 2)] rfl (.cons ⟨rfl, RO.gr (bs := [mor2 u])⟩ .nil) .nil hQ
  | cons a l =>
    refine pieceE hm pCall_sound appO_sound (r129h1 u b (bytes (a :: l)) (l.length + 1)) ⟨appC1 (by simp [bytes]) (by simp at hl; omega) rfl, trivial⟩ rfl 1 [(0, 2)] (os2 := [(0, gr (bytes (a :: l ++ [mor2 u])))]) rfl (.cons ⟨rfl, ?_⟩ .nil) .nil (fun T H D h => hQ T H D ?_)
    · have := bytes_snoc (a :: l) (mor2 u)
      rw [show (a :: l).length = l.length + 1 from rfl] at this
      rw [this]; exact RO.gr
    · rw [bV_snoc, bH_snoc]; exact h

/-- What is left of the function: the result is a new row of bytes. -/
abbrev NewB (f : Func) (bs : List Int) (H0 : Heap) : APost := fun ex T' H' D' => (ex = .normal ∨ ex = .ret) ∧ (D'.all fun d => quietDefer Tryz.prog d.1 && callable Tryz.prog d.1) = true ∧
  ∃ u, resA Tryz.prog f T' H' = some u ∧ (∃ id, u = .slice (some ⟨id, 0, none⟩) bs.length capG ∧ H0.next ≤ id ∧ H'.get id = .grow (bytes bs) 5) ∧ Keep H0 H'

theorem end129 (u : Int) (acc : List Int) (hl : acc.length ≤ 100) : Awn Tryz.prog 0 (codeOf Tryz.f129 [1,1,1,1,1]) (NewB Tryz.f129 (acc ++ [IntKind.u8.wrap u]) ⟨0, []⟩) (T129 u (bV acc)) (bH acc) [] := by
  cases acc with
  | nil =>
    refine pieceF hm pCall_sound noOO_sound (r129i0 u) trivial ?_
    intro e T H he hr hn hg
    cases tag1 he
    exact ⟨.inr rfl, rfl, _, hr, ⟨2, rfl, Nat.zero_le _, hg (2, _) (.head _)⟩, keep0 _⟩
  | cons a l =>
    refine pieceF hm pCall_sound appO_sound (r129i1 u (bytes (a :: l)) (l.length + 1)) ⟨appC1 (by simp [bytes]) (by simp at hl; omega) rfl, trivial⟩ ?_
    intro e T H he hr hn hg
    cases tag1 he
    refine ⟨.inr rfl, rfl, _, hr, ⟨2, ?_, Nat.zero_le _, ?_⟩, keep0 _⟩
    · simp [sl]
    · have := hg (2, _) (.head _)
      rw [this, ← bytes_snoc]; rfl

theorem loop129 (u0 : Int) (h0 : 0 ≤ u0) (h1 : u0 < 2 ^ 64) : Awn Tryz.prog 0 (codeOf Tryz.f129 [1,1,1]) (NewB Tryz.f129 (vF 10 u0) ⟨0, []⟩) (mkT 29 [(3, .int .u64 u0)] jX) ⟨0, []⟩ [] := by
  refine pieceS hm pCall_sound noOO_sound 0 (r129d u0) rfl trivial rfl 1 [(0, 0)] (os2 := [(0, .cells [] 5)]) rfl (.cons ⟨rfl, .cells .nil⟩ .nil) .nil ?_
  refine awn_seq (x := codeOf Tryz.f129 [1,1,1,1,0]) (y := codeOf Tryz.f129 [1,1,1,1,1]) ?_
  refine awn_block (c := codeOf Tryz.f129 [1,1,1,1,0,0]) (awn_loop (c := codeOf Tryz.f129 [1,1,1,1,0,0,0])
    (fun f T H D => ∃ acc u, acc ++ vF f u = vF 10 u0 ∧ 0 ≤ u ∧ u < 2 ^ 64 ∧ u < 2 ^ (7 * f + 7) ∧ acc.length + f ≤ 10 ∧ T = T129 u (bV acc) ∧ H = bH acc ∧ D = [])
    10 ⟨_, _, _, .refl _ _ _ _ _, [], u0, rfl, h0, h1, Int.lt_of_lt_of_le h1 (by decide), by simp, rfl, rfl, rfl⟩ ?_)
  rintro f T H D ⟨acc, u, hv, hu0, hu2, hu1, hlen, rfl, rfl, rfl⟩
  refine awn_seq (x := codeOf Tryz.f129 [1,1,1,1,0,0,0,0]) (y := codeOf Tryz.f129 [1,1,1,1,0,0,0,1]) ?_
  refine pieceT hm pCall_sound noOO_sound 0 (r129g u _ _) rfl trivial rfl ?_
  refine awn_cond (c := .tmp 14) (b := decide (128 ≤ u)) rfl rfl ?_
  by_cases hc : 128 ≤ u
  · rw [decide_eq_true hc]
    refine awn_skip ?_
    cases f with
    | zero => simp at hu1; omega
    | succ f =>
      have ⟨q1, q2⟩ := fdiv_lt hu0 hu1
      have e1 := more_eq u hu0
      have e2 := div2_eq hu0 hu2
      have q3 : u.fdiv 128 < 2 ^ 64 := by rw [← e2]; exact (wrap64 _).2
      refine body129 u _ acc (by omega) fun T H D h => ⟨f, by omega, _, _, _, h, acc ++ [mor2 u], div2 u, ?_, by rw [e2]; exact q1, by rw [e2]; exact q3, by rw [e2]; exact q2, by simp; omega, rfl, rfl, rfl⟩
      rw [← hv, vF, if_pos hc, e2, ← e1]; simp [mor2]
  · rw [decide_eq_false hc]
    refine awn_exit ?_
    refine awn_nrm (nrm_drop 2) ?_
    have hv2 : vF f u = [IntKind.u8.wrap u] := by
      cases f with
      | zero => rfl
      | succ f => rw [vF, if_neg hc]
    rw [hv2] at hv
    rw [← hv]
    exact end129 u acc (by omega)

theorem does129 (n : Int) : Does Tryz.prog 129 [i64 n] ⟨0, []⟩ (.slice (some ⟨0, 0, none⟩) (vint n).length capG) ((⟨0, []⟩ : Heap).push (gr (bytes (vint n)))) := by
  refine new_of_awp Tryz.func129 (c := codeOf Tryz.f129 []) rfl bytes_c2 (awp_of_awn (n := 0) ?_ (Nat.le_refl _))
  refine pieceT hm pCall_sound noOO_sound 1 (r129a n) rfl trivial rfl ?_
  refine awn_seq (x := codeOf Tryz.f129 [1,1,0]) (y := codeOf Tryz.f129 [1,1,1]) ?_
  refine pieceT hm pCall_sound noOO_sound 0 (r129b n _ _) rfl trivial rfl ?_
  refine awn_cond (c := .tmp 9) (b := decide (n < 0)) rfl rfl ?_
  have hl := zz_lt n
  by_cases hn : n < 0
  · rw [decide_eq_true hn]
    have hz : zz n = n64 (zz0 n) := by simp [zz, hn]
    rw [hz] at hl
    refine awn_of (pieceQ hm pCall_sound noOO_sound (r129c (zz0 n) _ _) trivial ?_)
    intro e X he
    cases tag0 he
    refine awn_nrm nrm_T ?_
    rw [vint, hz]
    exact loop129 _ hl.1 hl.2
  · rw [decide_eq_false hn]
    have hz : zz n = zz0 n := by simp [zz, hn]
    rw [hz] at hl
    refine awn_skip ?_
    refine awn_nrm (nrm_drop 1) ?_
    rw [vint, hz]
    exact loop129 _ hl.1 hl.2

/-- erasureref26.Int and erasureref40.number, by their contracts. -/
def intG : List Value → Heap → Option CallR := fun args H => match args with
  | [.int .i64 n] => some (.eff (sl H.next (vint n).length) (H.push (gr (bytes (vint n)))) True)
  | _ => none
theorem intG_sound : SoundC Tryz.prog (oneC 129 intG) := oneC_sound fun args H r h => by
  unfold intG at h
  split at h
  case h_2 => cases h
  cases h
  intro _
  exact frame_new (does129 _) rfl bytes_c2 (imp_closed H rfl)
theorem r76 (n : Int) : (ex3 Tryz.prog pCall (callO Tryz.prog (oneC 129 intG)) 30 (codeOf Tryz.f76 []) ⟨⟨[i64 n] ++ List.replicate 4 undef, ⟨0, []⟩, []⟩, True⟩).map (fin3 Tryz.prog Tryz.f76 [0])
  = some (⟨1, some (sl 0 (vint n).length), 1, [gr (bytes (vint n))], []⟩, True ∧ True) := by kernel_rfl
theorem does76 (n : Int) : Does Tryz.prog 76 [i64 n] ⟨0, []⟩ (.slice (some ⟨0, 0, none⟩) (vint n).length capG) ((⟨0, []⟩ : Heap).push (gr (bytes (vint n)))) := by
  refine new_of_awp Tryz.func76 (c := codeOf Tryz.f76 []) rfl bytes_c2 (awp_of_awn (n := 0) ?_ (Nat.le_refl _))
  refine pieceF hm pCall_sound (callO_sound intG_sound) (r76 n) ⟨trivial, trivial⟩ ?_
  intro e T H he hr hn hg
  cases tag1 he
  exact ⟨.inr rfl, rfl, _, hr, ⟨0, rfl, Nat.zero_le _, hg (0, _) (.head _)⟩, keep0 _⟩
theorem numG_sound : SoundC Tryz.prog (oneC 76 intG) := oneC_sound fun args H r h => by
  unfold intG at h
  split at h
  case h_2 => cases h
  cases h
  intro _
  exact frame_new (does76 _) rfl bytes_c2 (imp_closed H rfl)
end Go.Abs

namespace Go.Abs
open Go.Proofs
set_option maxRecDepth 100000

def encL2 : Nat → List Value → List Int → Prop → Prop
  | _, _, [], L => L
  | n, cs, b :: l, L => encL2 (n + (vint b).length) (cs.take (n * 1) ++ ((bytes (vint b)).drop 0).take ((vint b).length * 1)) l (AppC 1 0 1 5 5 0 capG n (vint b).length 0 cs (bytes (vint b)) ∧ True ∧ L)
theorem enc_all2 : ∀ (l : List Int) (xs : List Int) (L : Prop), xs.length + 11 * l.length ≤ 1000000 → L → encL2 xs.length (bytes xs) l L
  | [], xs, L, _, hL => hL
  | b :: l, xs, L, h, hL => by
    have h1 := vint_len b
    have h2 := vint_pos b
    simp only [List.length_cons] at h
    have e : (bytes xs).take (xs.length * 1) ++ ((bytes (vint b)).drop 0).take ((vint b).length * 1) = bytes (xs ++ vint b) := by
      rw [List.drop_zero, take_bytes, take_bytes, bytes_append]
    have el : xs.length + (vint b).length = (xs ++ vint b).length := by simp
    simp only [encL2, e, el]
    exact enc_all2 l (xs ++ vint b) _ (by simp; omega) ⟨appC_bytes h2 (by omega), trivial, hL⟩

noncomputable def oo34 : OpO := orO (callO Tryz.prog (oneC 76 intG)) (orO (appO Tryz.prog 18) (appE Tryz.prog 18))
theorem oo34_sound : SoundO Tryz.prog oo34 := orO_sound (callO_sound numG_sound) (orO_sound appO_sound appE_sound)
def encB2 (a : Int) : Prop := AppN 1 0 1 (vint a).length 0 (bytes (vint a)) ∧ True ∧ True

theorem r34_2 (a b : Int) : (ex3 Tryz.prog pCall oo34 90 (codeOf Tryz.f34 []) ⟨⟨[sl 0 2] ++ List.replicate 19 undef, ⟨1, [(0, .ro (i64s [a, b]))]⟩, []⟩, True⟩).map (fin3 Tryz.prog Tryz.f34 [0,5])
  = some (⟨1, some (sl 5 (encN (vint a).length [b])), 6, [.ro (i64s [a, b]), gr (encC (vint a).length (enc0 a) [b])], []⟩, encL2 (vint a).length (enc0 a) [b] (encB2 a)) := by kernel_rfl
theorem does34_2 (a b : Int) : Does Tryz.prog 34 [sl 0 2] ⟨1, [(0, .ro (i64s [a, b]))]⟩ (.slice (some ⟨1, 0, none⟩) (vints [a, b]).length capG) ((⟨1, [(0, .ro (i64s [a, b]))]⟩ : Heap).push (gr (bytes (vints [a, b])))) := by
  have h1 := vint_len a
  have e0 : enc0 a = bytes (vint a) := by rw [enc0, List.drop_zero, take_bytes]
  have hall := enc_all [b] (vint a) True (by simp; omega) trivial
  have hL := enc_all2 [b] (vint a) (encB2 a) (by simp; omega) ⟨appN_bytes (vint_pos a) (by omega), trivial, trivial⟩
  have ev : vint a ++ vints [b] = vints [a, b] := by simp [vints]
  rw [ev] at hall
  have hr := r34_2 a b
  rw [e0, hall.1, hall.2.1] at hr
  refine new_of_awp Tryz.func34 (c := codeOf Tryz.f34 []) rfl bytes_c2 (awp_of_awn (n := 1) ?_ (Nat.le_refl _))
  refine pieceF hm pCall_sound oo34_sound hr hL ?_
  intro e T H he hr hn hg
  cases tag1 he
  exact ⟨.inr rfl, rfl, _, hr, ⟨5, rfl, by show 1 ≤ 5; omega, hg (5, _) (.tail _ (.head _))⟩, keep1 (by rw [hn]; show 1 ≤ 6; omega) (hg (0, _) (.head _))⟩

theorem r34_5 (a b c d e : Int) : (ex3 Tryz.prog pCall oo34 90 (codeOf Tryz.f34 []) ⟨⟨[sl 0 5] ++ List.replicate 19 undef, ⟨1, [(0, .ro (i64s [a, b, c, d, e]))]⟩, []⟩, True⟩).map (fin3 Tryz.prog Tryz.f34 [0,11])
  = some (⟨1, some (sl 11 (encN (vint a).length [b, c, d, e])), 12, [.ro (i64s [a, b, c, d, e]), gr (encC (vint a).length (enc0 a) [b, c, d, e])], []⟩, encL2 (vint a).length (enc0 a) [b, c, d, e] (encB2 a)) := by kernel_rfl
theorem does34_5 (a b c d e : Int) : Does Tryz.prog 34 [sl 0 5] ⟨1, [(0, .ro (i64s [a, b, c, d, e]))]⟩ (.slice (some ⟨1, 0, none⟩) (vints [a, b, c, d, e]).length capG) ((⟨1, [(0, .ro (i64s [a, b, c, d, e]))]⟩ : Heap).push (gr (bytes (vints [a, b, c, d, e])))) := by
  have h1 := vint_len a
  have e0 : enc0 a = bytes (vint a) := by rw [enc0, List.drop_zero, take_bytes]
  have hall := enc_all [b, c, d, e] (vint a) True (by simp; omega) trivial
  have hL := enc_all2 [b, c, d, e] (vint a) (encB2 a) (by simp; omega) ⟨appN_bytes (vint_pos a) (by omega), trivial, trivial⟩
  have ev : vint a ++ vints [b, c, d, e] = vints [a, b, c, d, e] := by simp [vints]
  rw [ev] at hall
  have hr := r34_5 a b c d e
  rw [e0, hall.1, hall.2.1] at hr
  refine new_of_awp Tryz.func34 (c := codeOf Tryz.f34 []) rfl bytes_c2 (awp_of_awn (n := 1) ?_ (Nat.le_refl _))
  refine pieceF hm pCall_sound oo34_sound hr hL ?_
  intro e T H he hr hn hg
  cases tag1 he
  exact ⟨.inr rfl, rfl, _, hr, ⟨11, rfl, by show 1 ≤ 11; omega, hg (11, _) (.tail _ (.head _))⟩, keep1 (by rw [hn]; show 1 ≤ 12; omega) (hg (0, _) (.head _))⟩

theorem r34_6 (a b c d e f : Int) : (ex3 Tryz.prog pCall oo34 90 (codeOf Tryz.f34 []) ⟨⟨[sl 0 6] ++ List.replicate 19 undef, ⟨1, [(0, .ro (i64s [a, b, c, d, e, f]))]⟩, []⟩, True⟩).map (fin3 Tryz.prog Tryz.f34 [0,13])
  = some (⟨1, some (sl 13 (encN (vint a).length [b, c, d, e, f])), 14, [.ro (i64s [a, b, c, d, e, f]), gr (encC (vint a).length (enc0 a) [b, c, d, e, f])], []⟩, encL2 (vint a).length (enc0 a) [b, c, d, e, f] (encB2 a)) := by kernel_rfl
theorem does34_6 (a b c d e f : Int) : Does Tryz.prog 34 [sl 0 6] ⟨1, [(0, .ro (i64s [a, b, c, d, e, f]))]⟩ (.slice (some ⟨1, 0, none⟩) (vints [a, b, c, d, e, f]).length capG) ((⟨1, [(0, .ro (i64s [a, b, c, d, e, f]))]⟩ : Heap).push (gr (bytes (vints [a, b, c, d, e, f])))) := by
  have h1 := vint_len a
  have e0 : enc0 a = bytes (vint a) := by rw [enc0, List.drop_zero, take_bytes]
  have hall := enc_all [b, c, d, e, f] (vint a) True (by simp; omega) trivial
  have hL := enc_all2 [b, c, d, e, f] (vint a) (encB2 a) (by simp; omega) ⟨appN_bytes (vint_pos a) (by omega), trivial, trivial⟩
  have ev : vint a ++ vints [b, c, d, e, f] = vints [a, b, c, d, e, f] := by simp [vints]
  rw [ev] at hall
  have hr := r34_6 a b c d e f
  rw [e0, hall.1, hall.2.1] at hr
  refine new_of_awp Tryz.func34 (c := codeOf Tryz.f34 []) rfl bytes_c2 (awp_of_awn (n := 1) ?_ (Nat.le_refl _))
  refine pieceF hm pCall_sound oo34_sound hr hL ?_
  intro e T H he hr hn hg
  cases tag1 he
  exact ⟨.inr rfl, rfl, _, hr, ⟨13, rfl, by show 1 ≤ 13; omega, hg (13, _) (.tail _ (.head _))⟩, keep1 (by rw [hn]; show 1 ≤ 14; omega) (hg (0, _) (.head _))⟩


theorem num34_sound : SoundC Tryz.prog (oneC 34 encG) := oneC_sound fun args H r h => by
  unfold encG at h
  split at h
  case h_2 => cases h
  rename_i id k c
  split at h
  case h_2 => cases h
  rename_i cs hr
  split at h
  case h_2 => cases h
  rename_i ns hns
  obtain ⟨hb, hx⟩ := cond_some h
  subst hx
  intro _
  simp only [Bool.and_eq_true, ok256, Bool.or_eq_true] at hb
  have hk := beqN hb.2
  have hcs := un64_eq hns
  subst hcs
  have himp : ∀ n, ns.length = n → Imp Tryz.prog [.slice (some ⟨id, 0, none⟩) n c] H [sl 0 n] ⟨1, [(0, .ro (i64s ns))]⟩ := fun n hn => by
    refine imp_slice (pre := []) (post := []) (m := n) rfl rfl hr ?_ (by simp [i64s, hn]) i64s_c2
    rw [List.drop_zero, ← hn, show ns.length = (i64s ns).length by simp [i64s], List.take_length]
  rcases hb.1 with (h2 | h5) | h6
  · have := beqN h2; subst this
    obtain ⟨a, b, rfl⟩ := list2 hk
    exact frame_new (does34_2 a b) rfl bytes_c2 (himp 2 hk)
  · have := beqN h5; subst this
    obtain ⟨a, b, x, y, z, rfl⟩ := list5 hk
    exact frame_new (does34_5 a b x y z) rfl bytes_c2 (himp 5 hk)
  · have := beqN h6; subst this
    obtain ⟨a, b, x, y, z, t, rfl⟩ := list6 hk
    exact frame_new (does34_6 a b x y z t) rfl bytes_c2 (himp 6 hk)

/-- Digests as functions of the place. -/
def dgf (d : Nat → Int) : List Int := (List.range 32).map d
theorem dgf_of {l : List Int} (h : l.length = 32) : dgf (fun i => l.getD i 0) = l := by
  refine List.ext_getElem (by simp [dgf, h]) fun i h1 h2 => ?_
  simp [dgf, List.getD_eq_getElem?_getD, h2]

theorem r36 (d : Nat → Int) : (ex3 Tryz.prog pCall noOO 200 (codeOf Tryz.f36 []) ⟨⟨[dig (dgf d)] ++ List.replicate 16 undef, ⟨0, []⟩, []⟩, True⟩).map (fin3 Tryz.prog Tryz.f36 [65])
  = some (⟨1, some (sl 65 32), 66, [gr (bytes (dgf d))], []⟩, True) := by kernel_rfl
theorem does36 (d : Nat → Int) : Does Tryz.prog 36 [dig (dgf d)] ⟨0, []⟩ (.slice (some ⟨0, 0, none⟩) 32 capG) ((⟨0, []⟩ : Heap).push (gr (bytes (dgf d)))) := by
  refine new_of_awp Tryz.func36 (c := codeOf Tryz.f36 []) rfl bytes_c2 (awp_of_awn (n := 0) ?_ (Nat.le_refl _))
  refine pieceF hm pCall_sound noOO_sound (r36 d) trivial ?_
  intro e T H he hr hn hg
  cases tag1 he
  exact ⟨.inr rfl, rfl, _, hr, ⟨65, rfl, Nat.zero_le _, hg (65, _) (.head _)⟩, keep0 _⟩

/-- The bytes of a digest, by contract. -/
def BytC (vs : List Value) : Prop := vs.length = 32 ∧ ∀ v ∈ vs, isU8 v = true
def bytG : List Value → Heap → Option CallR := fun args H => match args with
  | [.agg vs] => some (.eff (sl H.next 32) (H.push (gr vs.toList)) (BytC vs.toList))
  | _ => none
theorem bytG_sound : SoundC Tryz.prog (oneC 36 bytG) := oneC_sound fun args H r h => by
  unfold bytG at h
  split at h
  case h_2 => cases h
  rename_i vs
  cases h
  rintro ⟨h1, h2⟩
  have e : vs.toList = bytes (unb vs.toList) := unb_eq h2
  have hl : (unb vs.toList).length = 32 := by simpa [unb] using h1
  have hd := dgf_of hl
  have ea : (Value.agg vs) = dig (dgf fun i => (unb vs.toList).getD i 0) := by
    rw [hd, dig, ← e]
  rw [ea]
  have := frame_new (does36 fun i => (unb vs.toList).getD i 0) rfl bytes_c2 (imp_closed H (by rw [List.all_eq_true]; intro v hv; cases List.mem_singleton.1 hv; exact dig_c2 _))
  rw [hd] at this ⊢
  rw [← e] at this
  exact this

/-- The digest of bytes, by contract. -/
def sumG : List Value → Heap → Option CallR := fun args H => match args with
  | [.int .u64 d, .slice (some ⟨id, off, none⟩) n _] => match H.row id with
    | some cs => some (.same (dig (sumS d (unb ((cs.drop off).take n)))) (off + n ≤ cs.length ∧ n ≤ 1000000 ∧ ∀ v ∈ (cs.drop off).take n, isU8 v = true))
    | none => none
  | _ => none
theorem sumG31_sound : SoundC Tryz.prog (oneC 31 sumG) := oneC_sound fun args H r h => by
  unfold sumG at h
  split at h
  case h_2 => cases h
  rename_i d id off n c
  split at h
  case h_2 => cases h
  rename_i cs hr
  cases h
  rintro ⟨h1, _, h2⟩
  have e : (cs.drop off).take n = bytes (unb ((cs.drop off).take n)) := unb_eq h2
  have hl : (unb ((cs.drop off).take n)).length = n := by simp [unb]; omega
  have := does31f (H := H) (d := d) (id := id) (off := off) (c := c) (cs := cs) (bs := unb ((cs.drop off).take n)) hr (by rw [hl]; exact e) (by rw [hl]; exact h1)
  rw [hl] at this
  exact this
end Go.Abs

namespace Go.Abs
open Go.Proofs
set_option maxRecDepth 100000

/-- Words of the bytes at a block. -/
def wordCi (id : Nat) (bs : List Int) : CallC := fun f args H => match args with
  | [.slice (some ⟨id', off, none⟩) n _] => bif (Nat.beq f 126 || Nat.beq f 128) && Nat.beq id' id then some (.same (.int .u64 (wordL ((bs.drop off).take 8))) (H.row id = some (bytes bs) ∧ n = 8 ∧ off + 8 ≤ bs.length)) else none
  | _ => none

theorem wordCi_sound {id : Nat} {bs : List Int} : SoundC Tryz.prog (wordCi id bs) := by
  have key : ∀ f args H r, wordCi id bs f args H = some r → ∃ v q, r = .same v q ∧ (q → Does Tryz.prog f args H v H) := by
    intro f args H r h
    unfold wordCi at h
    split at h
    case h_2 => cases h
    rename_i id' off n c
    obtain ⟨hf, hx⟩ := cond_some h
    clear h
    subst hx
    refine ⟨_, _, rfl, fun ⟨h1, h2, h3⟩ => ?_⟩
    subst h2
    have hw : ((bytes bs).drop off).take 8 = bytes ((bs.drop off).take 8) := by simp [bytes]
    have hl : ((bs.drop off).take 8).length = 8 := by simp; omega
    have hm : off + 8 ≤ (bytes bs).length := by simpa [bytes] using h3
    simp only [Bool.and_eq_true, Bool.or_eq_true] at hf
    obtain ⟨hf, hid⟩ := hf
    have := beqN hid
    subst this
    rcases hf with hf | hf
    · have := beqN hf; subst this; exact does126 h1 hw hl hm
    · have := beqN hf; subst this; exact does128 h1 hw hl hm
  refine ⟨fun f args H v c h hc => ?_, fun f args H v H' c h hc => ?_⟩
  · obtain ⟨_, _, h, k⟩ := key _ _ _ _ h; cases h; exact k hc
  · obtain ⟨_, _, h, k⟩ := key _ _ _ _ h; cases h

abbrev T75 (d : Int) (n : Nat) : List Value := mkT 42 [(0, .int .u64 d), (4, pt 1), (5, sl 2 n)] jX
abbrev H75 (bs : List Int) (cs : List Value) : Heap := mkH 3 [(0, .ro (bytes bs)), (1, S5.zero.obj), (2, gr cs)] []
abbrev T75b (n i : Nat) : List Value := mkT 42 [(4, pt 1), (5, sl 2 n), (6, pt 3), (7, i64 (i : Int))] jX
abbrev H75b (bs ps : List Int) (s : S5) : Heap := mkH 4 [(0, .ro (bytes bs)), (1, S5.zero.obj), (2, gr (bytes ps)), (3, s.obj)] []

theorem r75a (d : Int) (bs : List Int) (n : Nat) : (ex3 Tryz.prog pCall (orO (appE Tryz.prog 10) (appO Tryz.prog 12)) 30 (pre 1 (codeOf Tryz.f75 [])) ⟨⟨[.int .u64 d, sl 0 n] ++ List.replicate 40 undef, ⟨1, [(0, .ro (bytes bs))]⟩, []⟩, True⟩).map (obs3 [0,4,5] [0,1,5])
  = some (⟨0, [.int .u64 d, pt 1, sl 5 (n + 1)], 42, 6, [.ro (bytes bs), S5.zero.obj, gr ((((bytes bs).drop 0).take (n * 1)).take (n * 1) ++ [.int .u8 1])], []⟩,
    AppC 1 0 1 5 5 0 capG n 1 0 (((bytes bs).drop 0).take (n * 1)) [.int .u8 1] ∧ AppN 1 0 1 n 0 (bytes bs) ∧ True) := by kernel_rfl
theorem r75z (d : Int) (bs : List Int) : (ex3 Tryz.prog pCall noOO 30 (pre 1 (codeOf Tryz.f75 [])) ⟨⟨[.int .u64 d, sl 0 0] ++ List.replicate 40 undef, ⟨1, [(0, .ro (bytes bs))]⟩, []⟩, True⟩).map (obs3 [0,4,5] [0,1,4])
  = some (⟨0, [.int .u64 d, pt 1, sl 4 1], 42, 5, [.ro (bytes bs), S5.zero.obj, gr [.int .u8 1]], []⟩, True) := by kernel_rfl
theorem r75b (d : Int) (n : Nat) (H : Heap) : (ex3 Tryz.prog pCall noOO 30 (pre 0 (codeOf Tryz.f75 [1,1,0,0,0,0])) ⟨⟨T75 d n, H, []⟩, True⟩).map (obsQ [0,4,5,16])
  = some (⟨0, [.int .u64 d, pt 1, sl 2 n, .bool ((n : Int).tmod 8 != 0)], 42, H, []⟩, True) := by kernel_rfl
theorem r75c (d : Int) (b : Value) (bs : List Int) (cs : List Value) (n : Nat) : (ex3 Tryz.prog pCall (appO Tryz.prog 19) 30 (codeOf Tryz.f75 [1,1,0,0,0,1]) ⟨⟨mkT 42 [(0, .int .u64 d), (4, pt 1), (5, sl 2 n), (16, b)] jX, H75 bs cs, []⟩, True⟩).map (obs3 [0, 4, 5] [0, 1, 4])
  = some (⟨0, [.int .u64 d, pt 1, sl 4 (n + 1)], 42, 5, [.ro (bytes bs), S5.zero.obj, gr (cs.take (n * 1) ++ [.int .u8 0])], []⟩, AppC 1 0 1 5 5 0 capG n 1 0 cs [.int .u8 0] ∧ True) := by kernel_rfl
theorem r75d (d : Int) (b : Value) (bs ps : List Int) (n : Nat) : (ex3 Tryz.prog pCall noOO 30 (pre 0 (codeOf Tryz.f75 [1,1,1])) ⟨⟨mkT 42 [(0, .int .u64 d), (4, pt 1), (5, sl 2 n), (16, b)] jX, H75 bs (bytes ps), []⟩, True⟩).map (obs3 [4, 5, 6] [0, 1, 2, 3])
  = some (⟨0, [pt 1, sl 2 n, pt 3], 42, 4, [.ro (bytes bs), S5.zero.obj, gr (bytes ps), (perm ⟨d, 1, 2, 3, 4⟩).obj], []⟩, True) := by kernel_rfl
theorem r75e (n : Nat) (H : Heap) : (ex3 Tryz.prog pCall noOO 30 (pre 0 (codeOf Tryz.f75 [1,1,1,1,0])) ⟨⟨mkT 42 [(4, pt 1), (5, sl 2 n), (6, pt 3)] jX, H, []⟩, True⟩).map (obsQ [4,5,6,7])
  = some (⟨0, [pt 1, sl 2 n, pt 3, i64 ((0 : Nat) : Int)], 42, H, []⟩, True) := by kernel_rfl
theorem r75f (n i : Nat) (H : Heap) : (ex3 Tryz.prog pCall noOO 30 (pre 0 (codeOf Tryz.f75 [1,1,1,1,0,1,0,0,0])) ⟨⟨T75b n i, H, []⟩, True⟩).map (obsQ [4,5,6,7,26])
  = some (⟨0, [pt 1, sl 2 n, pt 3, i64 (i : Int), .bool (decide ((i : Int) < (n : Int)))], 42, H, []⟩, True) := by kernel_rfl
theorem r75g (bs ps : List Int) (i n : Nat) (b : Value) (s : S5) : (ex3 Tryz.prog pCall (orO (callO Tryz.prog (wordCi 2 ps)) (sliceU Tryz.prog 35)) 30 (codeOf Tryz.f75 [1,1,1,1,0,1,0,0,1]) ⟨⟨mkT 42 [(4, pt 1), (5, sl 2 n), (6, pt 3), (7, i64 (i : Int)), (26, b)] jX, H75b bs ps s, []⟩, True⟩).map (obs3 [4, 5, 6, 7] [0, 1, 2, 3])
  = some (⟨0, [pt 1, sl 2 n, pt 3, i64 (IntKind.i64.wrap ((i : Int) + 8))], 42, 4, [.ro (bytes bs), S5.zero.obj, gr (bytes ps), (absStep s (wordL ((ps.drop (0 + i * 1)).take 8))).obj], []⟩,
    (some (bytes ps) = some (bytes ps) ∧ (IntKind.i64.wrap ((i : Int) + 8)).toNat - i = 8 ∧ 0 + i * 1 + 8 ≤ ps.length) ∧
    (capG ≤ capG ∧ (0 : Int) ≤ (i : Int) ∧ (i : Int) ≤ IntKind.i64.wrap ((i : Int) + 8) ∧ IntKind.i64.wrap ((i : Int) + 8) ≤ (n : Int) ∧ ((i : Int) = 0 ∨ (i : Int) < (n : Int))) ∧ True) := by kernel_rfl
theorem r75h (bs ps : List Int) (n : Nat) (v b : Value) (s : S5) : (ex3 Tryz.prog pCall noOO 30 (codeOf Tryz.f75 [1,1,1,1,1]) ⟨⟨mkT 42 [(4, pt 1), (5, sl 2 n), (6, pt 3), (7, v), (26, b)] jX, H75b bs ps s, []⟩, True⟩).map (fin3 Tryz.prog Tryz.f75 [0])
  = some (⟨1, some s.arr, 4, [.ro (bytes bs)], []⟩, True) := by kernel_rfl

theorem S5.ro {σ : Nat → Option Nat} (s : S5) : RO σ s.obj s.obj := by
  refine .cells (RV.all fun v hv => ?_)
  simp at hv
  rcases hv with rfl | rfl | rfl | rfl | rfl <;> rfl

/-- What is missing to whole words. -/
def miss (n : Nat) : Nat := (8 - n % 8) % 8
def padA (bs : List Int) : List Int := bs ++ 1 :: List.replicate (miss (bs.length + 1)) 0
theorem padA_len (bs : List Int) : (padA bs).length = bs.length + 1 + miss (bs.length + 1) := by simp [padA]; omega
theorem padA_mod (bs : List Int) : (padA bs).length % 8 = 0 := by rw [padA_len]; unfold miss; omega

theorem wrap_i64 {i : Nat} (h : i ≤ 1000000000) : IntKind.i64.wrap ((i : Int) + 8) = ((i + 8 : Nat) : Int) := by
  simp [IntKind.wrap, IntKind.bits, IntKind.signed]
  omega

theorem loop75 (d : Int) (bs : List Int) (hb : bs.length ≤ 1000000) (T : List Value) (b : Value) (hT : T = mkT 42 [(0, .int .u64 d), (4, pt 1), (5, sl 2 (padA bs).length), (16, b)] jX) :
    Awn Tryz.prog 1 (codeOf Tryz.f75 [1,1,1]) (fun ex T' H' D' => (ex = .normal ∨ ex = .ret) ∧ (D'.all fun d => quietDefer Tryz.prog d.1 && callable Tryz.prog d.1) = true ∧ ∃ u, resA Tryz.prog Tryz.f75 T' H' = some u ∧ u = (absorbS d bs).arr ∧ Keep ⟨1, [(0, .ro (bytes bs))]⟩ H') T (H75 bs (bytes (padA bs))) [] := by
  subst hT
  have hpl := padA_len bs
  have hpm := padA_mod bs
  have hmi : miss (bs.length + 1) < 8 := by unfold miss; omega
  refine pieceS hm pCall_sound noOO_sound 0 (r75d d b bs (padA bs) _) rfl trivial rfl 4 [(1, 1), (2, 2), (3, 3)] (os2 := [(0, .ro (bytes bs)), (1, S5.zero.obj), (2, gr (bytes (padA bs))), (3, (perm ⟨d, 1, 2, 3, 4⟩).obj)]) rfl (.cons ⟨rfl, RO.rob⟩ (.cons ⟨rfl, S5.ro _⟩ (.cons ⟨rfl, RO.gr⟩ (.cons ⟨rfl, S5.ro _⟩ .nil)))) .nil ?_
  refine awn_seq (x := codeOf Tryz.f75 [1,1,1,1,0]) (y := codeOf Tryz.f75 [1,1,1,1,1]) ?_
  refine pieceT hm pCall_sound noOO_sound 0 (r75e _ _) rfl trivial rfl ?_
  refine awn_block (c := codeOf Tryz.f75 [1,1,1,1,0,1,0]) (awn_loop (c := codeOf Tryz.f75 [1,1,1,1,0,1,0,0])
    (fun k T H D => ∃ i s f, i + 8 * k = (padA bs).length ∧ (k = 0 → s = absorbS d bs) ∧ (0 < k → i ≤ bs.length ∧ bs.length < f + i ∧ absF f s (bs.drop i) = absorbS d bs) ∧ T = T75b (padA bs).length i ∧ H = H75b bs (padA bs) s ∧ D = [])
    ((padA bs).length / 8) ⟨_, _, _, .refl _ _ _ _ _, 0, perm ⟨d, 1, 2, 3, 4⟩, bs.length + 1, by omega, by omega, fun _ => ⟨by omega, by omega, rfl⟩, rfl, rfl, rfl⟩ ?_)
  rintro k T H D ⟨i, s, f, hk, hz, hp, rfl, rfl, rfl⟩
  refine awn_seq (x := codeOf Tryz.f75 [1,1,1,1,0,1,0,0,0]) (y := codeOf Tryz.f75 [1,1,1,1,0,1,0,0,1]) ?_
  refine pieceT hm pCall_sound noOO_sound 0 (r75f _ i _) rfl trivial rfl ?_
  refine awn_cond (c := .tmp 26) (b := decide ((i : Int) < ((padA bs).length : Int))) rfl rfl ?_
  cases k with
  | zero =>
    rw [decide_eq_false (by omega)]
    refine awn_exit ?_
    refine pieceF hm pCall_sound noOO_sound (r75h bs (padA bs) _ _ _ s) trivial ?_
    intro e T H he hr hn hg
    cases tag1 he
    exact ⟨.inr rfl, rfl, _, hr, by rw [hz rfl], keep1 (by rw [hn]; show 1 ≤ 4; omega) (hg (0, _) (.head _))⟩
  | succ k =>
    obtain ⟨h1, h2, h3⟩ := hp (by omega)
    rw [decide_eq_true (by omega)]
    refine awn_skip ?_
    have hw := wrap_i64 (i := i) (by omega)
    have hr := r75g bs (padA bs) i (padA bs).length (.bool true) s
    rw [hw] at hr
    refine pieceE hm pCall_sound (orO_sound (callO_sound wordCi_sound) sliceU_sound) hr ⟨⟨rfl, by omega, by omega⟩, ⟨Nat.le_refl _, by omega, by omega, by omega, by omega⟩, trivial⟩ rfl 4 [(1, 1), (2, 2), (3, 3)]
      (os2 := [(0, .ro (bytes bs)), (1, S5.zero.obj), (2, gr (bytes (padA bs))), (3, (absStep s (wordL (((padA bs).drop (0 + i * 1)).take 8))).obj)]) rfl (.cons ⟨rfl, RO.rob⟩ (.cons ⟨rfl, S5.ro _⟩ (.cons ⟨rfl, RO.gr⟩ (.cons ⟨rfl, S5.ro _⟩ .nil)))) .nil ?_
    intro T H D h
    obtain ⟨f, rfl⟩ : ∃ q, f = q + 1 := ⟨f - 1, by omega⟩
    have hz0 : 0 + i * 1 = i := by omega
    refine ⟨k, by omega, _, _, _, h, i + 8, _, f, by omega, fun hk0 => ?_, fun hk0 => ?_, rfl, rfl, rfl⟩
    · -- the last word
      have hlt : ¬ 8 ≤ (bs.drop i).length := by simp; omega
      rw [absF, if_neg hlt] at h3
      rw [← h3, hz0]
      congr 2
      unfold padA
      rw [List.drop_append_of_le_length (by omega)]
      unfold padL
      rw [List.take_of_length_le (by simp; omega)]
      congr 3
      simp; unfold miss at *; omega
    · have hge : 8 ≤ (bs.drop i).length := by simp; omega
      rw [absF, if_pos hge, List.drop_drop] at h3
      refine ⟨by omega, by omega, ?_⟩
      rw [← h3, hz0]
      congr 3
      unfold padA
      rw [List.drop_append_of_le_length (by omega), List.take_append_of_le_length hge]

theorem does75 (d : Int) (bs : List Int) (hb : bs.length ≤ 1000000) : Does Tryz.prog 75 [.int .u64 d, sl 0 bs.length] ⟨1, [(0, .ro (bytes bs))]⟩ (absorbS d bs).arr ⟨1, [(0, .ro (bytes bs))]⟩ := by
  refine val_of_awp Tryz.func75 (c := codeOf Tryz.f75 []) rfl (S5.c2 _) (awp_of_awn (n := 1) ?_ (Nat.le_refl _))
  have hpl := padA_len bs
  have hmi : miss (bs.length + 1) < 8 := by unfold miss; omega
  have main : Awn Tryz.prog 1 (codeOf Tryz.f75 [1,1]) (fun ex T' H' D' => (ex = .normal ∨ ex = .ret) ∧ (D'.all fun d => quietDefer Tryz.prog d.1 && callable Tryz.prog d.1) = true ∧ ∃ u, resA Tryz.prog Tryz.f75 T' H' = some u ∧ u = (absorbS d bs).arr ∧ Keep ⟨1, [(0, .ro (bytes bs))]⟩ H') (T75 d (bs.length + 1)) (H75 bs (bytes (bs ++ [1]))) [] := by
    refine awn_seq (x := codeOf Tryz.f75 [1,1,0]) (y := codeOf Tryz.f75 [1,1,1]) ?_
    refine awn_block (c := codeOf Tryz.f75 [1,1,0,0]) (awn_loop (c := codeOf Tryz.f75 [1,1,0,0,0])
      (fun k T H D => ∃ z, z + k = miss (bs.length + 1) ∧ T = T75 d (bs.length + 1 + z) ∧ H = H75 bs (bytes (bs ++ 1 :: List.replicate z 0)) ∧ D = [])
      (miss (bs.length + 1)) ⟨_, _, _, .refl _ _ _ _ _, 0, by omega, rfl, rfl, rfl⟩ ?_)
    rintro k T H D ⟨z, hk, rfl, rfl, rfl⟩
    refine awn_seq (x := codeOf Tryz.f75 [1,1,0,0,0,0]) (y := codeOf Tryz.f75 [1,1,0,0,0,1]) ?_
    refine pieceT hm pCall_sound noOO_sound 0 (r75b d _ _) rfl trivial rfl ?_
    refine awn_cond (c := .tmp 16) (b := ((bs.length + 1 + z : Nat) : Int).tmod 8 != 0) rfl rfl ?_
    have hmod : ((bs.length + 1 + z : Nat) : Int).tmod 8 = (((bs.length + 1 + z) % 8 : Nat) : Int) := by
      rw [Int.tmod_eq_emod_of_nonneg (by omega)]; omega
    have hmz : miss (bs.length + 1) = z + k := by omega
    unfold miss at hmz
    cases k with
    | zero =>
      rw [show (((bs.length + 1 + z : Nat) : Int).tmod 8 != 0) = false by rw [hmod]; simp; omega]
      refine awn_exit ?_
      have hz : z = miss (bs.length + 1) := by omega
      subst hz
      exact loop75 d bs hb _ (.bool _) (by rw [padA_len]; rfl)
    | succ k =>
      rw [show (((bs.length + 1 + z : Nat) : Int).tmod 8 != 0) = true by rw [hmod]; simp; omega]
      refine awn_skip ?_
      have hlen : (bs ++ 1 :: List.replicate z (0 : Int)).length = bs.length + 1 + z := by simp; omega
      have hsn := bytes_snoc (bs ++ 1 :: List.replicate z 0) 0
      rw [hlen] at hsn
      have hap : bs ++ 1 :: List.replicate z (0 : Int) ++ [0] = bs ++ 1 :: List.replicate (z + 1) 0 := by
        rw [List.append_assoc, List.cons_append, List.replicate_succ']
      rw [hap] at hsn
      refine pieceE hm pCall_sound appO_sound (r75c d _ bs (bytes (bs ++ 1 :: List.replicate z 0)) (bs.length + 1 + z)) ⟨appC1 (by rw [bytes_len, hlen]; omega) (by omega) rfl, trivial⟩ rfl 3 [(1, 1), (2, 4)]
        (os2 := [(0, .ro (bytes bs)), (1, S5.zero.obj), (2, gr (bytes (bs ++ 1 :: List.replicate (z + 1) 0)))]) rfl (.cons ⟨rfl, RO.rob⟩ (.cons ⟨rfl, S5.ro _⟩ (.cons ⟨rfl, by rw [hsn]; exact RO.gr⟩ .nil))) .nil ?_
      intro T H D h
      exact ⟨k, by omega, _, _, _, h, z + 1, by omega, rfl, rfl, rfl⟩
  rcases Nat.eq_zero_or_pos bs.length with h0 | hpos
  · have hbs : bs = [] := List.eq_nil_of_length_eq_zero h0
    subst hbs
    exact pieceS hm pCall_sound noOO_sound 1 (r75z d []) rfl trivial rfl 3 [(1, 1), (2, 4)] (os2 := [(0, .ro (bytes [])), (1, S5.zero.obj), (2, gr (bytes ([] ++ [1])))]) rfl (.cons ⟨rfl, RO.rob⟩ (.cons ⟨rfl, S5.ro _⟩ (.cons ⟨rfl, RO.gr (bs := [1])⟩ .nil))) .nil main
  · have hsn : (((bytes bs).drop 0).take (bs.length * 1)).take (bs.length * 1) ++ [Value.int .u8 1] = bytes (bs ++ [1]) := by
      rw [List.drop_zero, take_bytes, bytes_snoc]
    exact pieceS hm pCall_sound (orO_sound appE_sound appO_sound) 1 (r75a d bs bs.length) rfl ⟨appC1 (by rw [List.drop_zero, take_bytes, bytes_len]; omega) (by omega) rfl, appN_bytes hpos (by omega), trivial⟩ rfl 3 [(1, 1), (2, 5)]
      (os2 := [(0, .ro (bytes bs)), (1, S5.zero.obj), (2, gr (bytes (bs ++ [1])))]) rfl (.cons ⟨rfl, RO.rob⟩ (.cons ⟨rfl, S5.ro _⟩ (.cons ⟨rfl, by rw [hsn]; exact RO.gr⟩ .nil))) .nil main
end Go.Abs

namespace Go.Abs
open Go.Proofs
set_option maxRecDepth 100000

def absG : List Value → Heap → Option CallR := fun args H => match args with
  | [.int .u64 d, .slice (some ⟨id, off, none⟩) n _] => match H.row id with
    | some cs => some (.same (absorbS d (unb ((cs.drop off).take n))).arr (off + n ≤ cs.length ∧ n ≤ 1000000 ∧ ∀ v ∈ (cs.drop off).take n, isU8 v = true))
    | none => none
  | _ => none
theorem absG_sound : SoundC Tryz.prog (oneC 75 absG) := oneC_sound fun args H r h => by
  unfold absG at h
  split at h
  case h_2 => cases h
  rename_i d id off n c
  split at h
  case h_2 => cases h
  rename_i cs hr
  cases h
  rintro ⟨h1, h3, h2⟩
  have e : (cs.drop off).take n = bytes (unb ((cs.drop off).take n)) := unb_eq h2
  have hl : (unb ((cs.drop off).take n)).length = n := by simp [unb]; omega
  have := frame_val (does75 d (unb ((cs.drop off).take n)) (by rw [hl]; exact h3)) (S5.c2 _) (imp_slice (P := Tryz.prog) (H := H) (id := id) (off := off) (c := c) (n := (unb ((cs.drop off).take n)).length) (m := n) (pre := [.int .u64 d]) (post := []) rfl rfl hr e h1 bytes_c2)
  rw [hl] at this
  exact this

noncomputable def sCall : CallF := runF Tryz.prog (orC permO wordO) 400
theorem sCall_sound : ∀ f args H v h, sCall f args H = some (v, h) → Does Tryz.prog f args H v (h.getD H) := fun _ _ _ _ _ h => runF_sound hm (orC_sound permO_sound wordO_sound) h

theorem r33 (d : Int) (bs : List Int) (n : Nat) : (ex3 Tryz.prog sCall (callO Tryz.prog (oneC 75 absG)) 400 (codeOf Tryz.f33 []) ⟨⟨[.int .u64 d, sl 0 n] ++ List.replicate 21 undef, ⟨1, [(0, .ro (bytes bs))]⟩, []⟩, True⟩).map (fin3 Tryz.prog Tryz.f33 [0])
  = some (⟨1, some (dig (sumS d (unb (((bytes bs).drop 0).take n)))), 69, [.ro (bytes bs)], []⟩, (0 + n ≤ (bytes bs).length ∧ n ≤ 1000000 ∧ ∀ v ∈ ((bytes bs).drop 0).take n, isU8 v = true) ∧ True) := by kernel_rfl

theorem bytes_u8 {bs : List Int} : ∀ v ∈ bytes bs, isU8 v = true := by
  intro v hv
  obtain ⟨b, _, rfl⟩ := List.mem_map.1 hv
  rfl
theorem unb_bytes (bs : List Int) : unb (bytes bs) = bs := by
  induction bs with
  | nil => rfl
  | cons b bs ih => simp only [bytes, unb, List.map_cons] at ih ⊢; rw [ih]

theorem does33 (d : Int) (bs : List Int) (hb : bs.length ≤ 1000000) : Does Tryz.prog 33 [.int .u64 d, sl 0 bs.length] ⟨1, [(0, .ro (bytes bs))]⟩ (dig (sumS d bs)) ⟨1, [(0, .ro (bytes bs))]⟩ := by
  refine val_of_awp Tryz.func33 (c := codeOf Tryz.f33 []) rfl (dig_c2 _) (awp_of_awn (n := 1) ?_ (Nat.le_refl _))
  have e : ((bytes bs).drop 0).take bs.length = bytes bs := by rw [List.drop_zero]; have := take_bytes bs; rwa [Nat.mul_one] at this
  have hr := r33 d bs bs.length
  rw [e] at hr
  refine pieceF hm sCall_sound (callO_sound absG_sound) hr ⟨⟨by rw [bytes_len]; omega, hb, bytes_u8⟩, trivial⟩ ?_
  intro e T H he hr hn hg
  cases tag1 he
  exact ⟨.inr rfl, rfl, _, hr, by rw [unb_bytes], keep1 (by rw [hn]; show 1 ≤ 69; omega) (hg (0, _) (.head _))⟩

theorem sumG33_sound : SoundC Tryz.prog (oneC 33 sumG) := oneC_sound fun args H r h => by
  unfold sumG at h
  split at h
  case h_2 => cases h
  rename_i d id off n c
  split at h
  case h_2 => cases h
  rename_i cs hr
  cases h
  rintro ⟨h1, h3, h2⟩
  have e : (cs.drop off).take n = bytes (unb ((cs.drop off).take n)) := unb_eq h2
  have hl : (unb ((cs.drop off).take n)).length = n := by simp [unb]; omega
  have := frame_val (does33 d (unb ((cs.drop off).take n)) (by rw [hl]; exact h3)) (dig_c2 _) (imp_slice (P := Tryz.prog) (H := H) (id := id) (off := off) (c := c) (n := (unb ((cs.drop off).take n)).length) (m := n) (pre := [.int .u64 d]) (post := []) rfl rfl hr e h1 bytes_c2)
  rw [hl] at this
  exact this
end Go.Abs

