/- BackupKeeps of law 31: Keep and Expire of the program return the lists of the specification, for all days, numbers of days and today; no condition. -/
import Derived.Test.YtafcagkhojhbbaaGreatKA
import Derived.Test.YtafcagkhojhbbaaGreatKBc
set_option linter.unusedSimpArgs false
set_option linter.unusedVariables false
namespace Go.Abs
open Go.Proofs
set_option maxRecDepth 1000000
def pt (i : Nat) : Value := .pointer (some ⟨i, 0, none⟩)
def S5.obj (s : S5) : AObj := .cells [.int .u64 s.a, .int .u64 s.b, .int .u64 s.c, .int .u64 s.d, .int .u64 s.e] 165
def S5.zero : S5 := ⟨0, 0, 0, 0, 0⟩
def bytes (bs : List Int) : List Value := bs.map (.int .u8)
theorem bytes_c2 {bs : List Int} : ∀ v ∈ bytes bs, c2 v = true := by
  intro v hv
  obtain ⟨b, _, rfl⟩ := List.mem_map.1 hv
  rfl

/-- A byte is laid into a word. -/
def lay (x : Int) (i : Nat) (b : Int) : Int := o64 x (IntKind.u64.wrap (IntKind.u64.wrap b * 2 ^ (8 * i)))
def wordFrom (x : Int) : Nat → List Int → Int
  | _, [] => x
  | i, b :: bs => wordFrom (lay x i b) (i + 1) bs
def wordL (bs : List Int) : Int := wordFrom 0 0 bs

theorem run126 (b0 b1 b2 b3 b4 b5 b6 b7 : Int) : (runF Tryz.prog noO 100 123 [.slice (some ⟨0, 0, none⟩) 8 capG] ⟨1, [(0, .ro (bytes [b0, b1, b2, b3, b4, b5, b6, b7]))]⟩).map (·.1) = some (.int .u64 (wordL [b0, b1, b2, b3, b4, b5, b6, b7])) := by kernel_rfl
theorem val_of_run {O : CallF} (hO : ∀ f args H v h, O f args H = some (v, h) → Does Tryz.prog f args H v (h.getD H)) {n : Nat} {f : FuncId} {args args0 : List Value} {H H0 : Heap} {v : Value} (h : (runF Tryz.prog O n f args0 H0).map (·.1) = some v)
    (hv : c2 v = true) (hi : Imp Tryz.prog args H args0 H0) : Does Tryz.prog f args H v H := by
  cases hr : runF Tryz.prog O n f args0 H0 with
  | none => rw [hr] at h; cases h
  | some r =>
    obtain ⟨u, h'⟩ := r
    rw [hr] at h
    simp only [Option.map_some, Option.some.injEq] at h
    subst h
    exact frame_val (runF_sound hm hO hr) hv hi

theorem list8 {bs : List Int} (h : bs.length = 8) : ∃ b0 b1 b2 b3 b4 b5 b6 b7, bs = [b0, b1, b2, b3, b4, b5, b6, b7] := by
  match bs, h with
  | [b0, b1, b2, b3, b4, b5, b6, b7], _ => exact ⟨_, _, _, _, _, _, _, _, rfl⟩

theorem does126 {H : Heap} {id off c : Nat} {cs : List Value} {bs : List Int} (hr : H.row id = some cs) (hw : (cs.drop off).take 8 = bytes bs) (hb : bs.length = 8) (hm : off + 8 ≤ cs.length) : Does Tryz.prog 123 [.slice (some ⟨id, off, none⟩) 8 c] H (.int .u64 (wordL bs)) H := by
  obtain ⟨b0, b1, b2, b3, b4, b5, b6, b7, rfl⟩ := list8 hb
  exact val_of_run noO_sound (run126 b0 b1 b2 b3 b4 b5 b6 b7) rfl (imp_slice (pre := []) (post := []) rfl rfl hr hw hm bytes_c2)
/-- Words of the bytes at block 0. -/
def wordC (bs : List Int) : CallC := fun f args H => match args with
  | [.slice (some ⟨0, off, none⟩) n _] => bif Nat.beq f 123 || Nat.beq f 123 then some (.same (.int .u64 (wordL ((bs.drop off).take 8))) (H.row 0 = some (bytes bs) ∧ n = 8 ∧ off + 8 ≤ bs.length)) else none
  | _ => none

theorem wordC_sound {bs : List Int} : SoundC Tryz.prog (wordC bs) := by
  have key : ∀ f args H r, wordC bs f args H = some r → ∃ v q, r = .same v q ∧ (q → Does Tryz.prog f args H v H) := by
    intro f args H r h
    unfold wordC at h
    split at h
    case h_2 => cases h
    rename_i off n c
    obtain ⟨hf, hx⟩ := cond_some h
    clear h
    subst hx
    refine ⟨_, _, rfl, fun ⟨h1, h2, h3⟩ => ?_⟩
    subst h2
    have hw : ((bytes bs).drop off).take 8 = bytes ((bs.drop off).take 8) := by simp [bytes]
    have hl : ((bs.drop off).take 8).length = 8 := by simp; omega
    have hm : off + 8 ≤ (bytes bs).length := by simpa [bytes] using h3
    simp only [Bool.or_eq_true] at hf
    rcases hf with hf | hf
    · have := beqN hf; subst this; exact does126 h1 hw hl hm
    · have := beqN hf; subst this; exact does126 h1 hw hl hm
  refine ⟨fun f args H v c h hc => ?_, fun f args H v H' c h hc => ?_⟩
  · obtain ⟨_, _, h, k⟩ := key _ _ _ _ h; cases h; exact k hc
  · obtain ⟨_, _, h, k⟩ := key _ _ _ _ h; cases h

def u8s : List Value → Option (List Int)
  | [] => some []
  | .int .u8 b :: vs => match u8s vs with
    | some bs => some (b :: bs)
    | none => none
  | _ => none
theorem u8s_eq : ∀ {vs : List Value} {bs : List Int}, u8s vs = some bs → vs = bytes bs
  | [], bs, h => by cases h; rfl
  | v :: vs, bs, h => by
    unfold u8s at h
    split at h
    · rename_i heq; cases heq
    · rename_i b vs' heq
      cases heq
      split at h
      · rename_i bs' hb; cases h; rw [u8s_eq hb]; rfl
      · cases h
    · cases h

/-- Words of known bytes. -/
def wordO : CallF := fun f args H => match args with
  | [.slice (some ⟨id, off, none⟩) 8 _] => bif Nat.beq f 123 || Nat.beq f 123 then (match H.row id with
    | some cs => bif Nat.ble (off + 8) cs.length then (match u8s ((cs.drop off).take 8) with
      | some bs => some (.int .u64 (wordL bs), none)
      | none => none) else none
    | none => none) else none
  | _ => none

theorem wordO_sound : ∀ f args H v h, wordO f args H = some (v, h) → Does Tryz.prog f args H v (h.getD H) := by
  intro f args H v h hr
  unfold wordO at hr
  split at hr
  case h_2 => cases hr
  rename_i id off c
  obtain ⟨hf, hx⟩ := cond_opt hr
  clear hr
  split at hx
  case h_2 => cases hx
  rename_i cs hrow
  obtain ⟨hb, hx⟩ := cond_opt hx
  split at hx
  case h_2 => cases hx
  rename_i bs hbs
  cases hx
  have hm := bleN hb
  have hw := u8s_eq hbs
  have hl : bs.length = 8 := by
    have := congrArg List.length hw
    simp [bytes] at this
    omega
  simp only [Bool.or_eq_true] at hf
  rcases hf with hf | hf
  · have := beqN hf; subst this; exact does126 hrow hw hl hm
  · have := beqN hf; subst this; exact does126 hrow hw hl hm

def orC (a b : CallF) : CallF := fun f args H => match a f args H with
  | some r => some r
  | none => b f args H
theorem orC_sound {a b : CallF} (ha : ∀ f args H v h, a f args H = some (v, h) → Does Tryz.prog f args H v (h.getD H)) (hb : ∀ f args H v h, b f args H = some (v, h) → Does Tryz.prog f args H v (h.getD H)) : ∀ f args H v h, orC a b f args H = some (v, h) → Does Tryz.prog f args H v (h.getD H) := by
  intro f args H v h hr
  unfold orC at hr
  split at hr
  · rename_i r hx; cases hr; exact ha _ _ _ _ _ hx
  · exact hb _ _ _ _ _ hr

noncomputable def pCall : CallF := runF Tryz.prog (orC permO wordO) 200
theorem pCall_sound : ∀ f args H v h, pCall f args H = some (v, h) → Does Tryz.prog f args H v (h.getD H) := fun _ _ _ _ _ h => runF_sound hm (orC_sound permO_sound wordO_sound) h

def absStep (s : S5) (w : Int) : S5 := perm ⟨x64 s.a w, s.b, s.c, s.d, s.e⟩

theorem r73a (s : S5) (bs : List Int) (off n c : Nat) (X : Nat → Value) (l : List (Nat × AObj)) :
    (ex3 Tryz.prog pCall (orO (callO Tryz.prog (wordC bs)) (orO (sliceU Tryz.prog 16) (sliceU Tryz.prog 23))) 30 (codeOf Tryz.f82 [1,1,0,0,0,1]) ⟨⟨mkT 38 [(1, .slice (some ⟨0, off, none⟩) n c), (4, pt 1), (5, pt 2)] X, mkH 3 [(0, .ro (bytes bs)), (1, S5.zero.obj), (2, s.obj)] l, []⟩, True⟩).map (obs3 [1, 4, 5] [0, 1, 2])
     = some (⟨0, [.slice (some ⟨0, off + 8, none⟩) (n - 8) (c + 8), pt 1, pt 2], 38, 3, [.ro (bytes bs), S5.zero.obj, (absStep s (wordL ((bs.drop off).take 8))).obj], []⟩,
        (capG ≤ c ∧ (0 : Int) ≤ 8 ∧ (8 : Int) ≤ (n : Int) ∧ (n : Int) ≤ (n : Int) ∧ ((8 : Int) = 0 ∨ (8 : Int) < (n : Int))) ∧ (some (bytes bs) = some (bytes bs) ∧ 8 = 8 ∧ off + 8 ≤ bs.length) ∧
        (capG ≤ c ∧ (0 : Int) ≤ 0 ∧ (0 : Int) ≤ 8 ∧ (8 : Int) ≤ (n : Int) ∧ ((0 : Int) = 0 ∨ (0 : Int) < (n : Int))) ∧ True) := by kernel_rfl
def part (bs : List Int) (off m : Nat) : List Value := (List.range m).map fun j => .int .u8 (bs.getD (off + j) 0)
theorem part_eq {bs : List Int} {off m : Nat} (h : off + m ≤ bs.length) : ((bytes bs).drop off).take m = part bs off m := by
  refine List.ext_getElem (by simp [bytes, part]; omega) fun i h1 h2 => ?_
  have hi : i < m := by simpa [part] using h2
  simp [bytes, part, List.getD_eq_getElem?_getD, show off + i < bs.length by omega]
theorem part_one {bs : List Int} {off m : Nat} : (part bs off m).all one = true := by
  rw [List.all_eq_true]
  intro v hv
  obtain ⟨j, _, rfl⟩ := List.mem_map.1 hv
  rfl

/-- A copy out of the bytes at block 0. -/
def copyO (P : Program) (bs : List Int) (d : Nat) : OpO := fun o ρ H => match o.dst with
  | some d' => bif Nat.beq d' d then (match o.op with
    | .call c => match c.callee with
      | .builtin .copy => match c.argTypes.toList, c.args.toList with
        | [dT, _], [dd, x] => match P.underlying dT, ρ dd, ρ x with
          | some (.slice e), .slice (some ⟨id, doff, none⟩) n _, .slice (some ⟨0, off, none⟩) m _ => match sizeT P e, (H.get id).own with
            | some 1, some dst => some (.eff (.int .i64 m) (H.put id ((H.get id).setOwn (splice dst doff (part bs off m)))) (H.row 0 = some (bytes bs) ∧ 0 < m ∧ off + m ≤ bs.length ∧ doff + m ≤ dst.length ∧ m ≤ n))
            | _, _ => none
          | _, _, _ => none
        | _, _ => none
      | _ => none
    | _ => none) else none
  | none => none

theorem copyO_sound {P : Program} {bs : List Int} {d : Nat} : SoundO P (copyO P bs d) := by
  have key : ∀ o ρ H r, copyO P bs d o ρ H = some r → ∃ v H' c, r = .eff v H' c ∧ (c → ∀ D, SDoes P o ρ H D v H' D) := by
    intro o ρ H r h
    unfold copyO at h
    split at h
    case h_2 => cases h
    obtain ⟨_, h⟩ := cond_opt h
    split at h
    case h_2 => cases h
    rename_i c ho
    split at h
    case h_2 => cases h
    rename_i hcal
    split at h
    case h_2 => cases h
    rename_i dT xT dd x hat hargs
    split at h
    case h_2 => cases h
    rename_i e id doff n cc off m cx hu hd hx
    split at h
    case h_2 => cases h
    rename_i dst hs hown
    cases h
    refine ⟨_, _, _, rfl, fun ⟨c1, c2, c3, c4, c5⟩ D => .of_ev D ?_⟩
    obtain ⟨m, rfl⟩ : ∃ k, m = k + 1 := ⟨m - 1, by omega⟩
    have hsrc : srcA H 1 (.slice (some ⟨0, off, none⟩) (m + 1) cx) = some (m + 1, part bs off (m + 1)) := by
      have hb : Nat.ble (off + (m + 1)) (bytes bs).length = true := by
        rw [Nat.ble_eq]; simp only [bytes, List.length_map]; omega
      simp only [srcA, c1, Nat.mul_one, hb, cond_true, part_eq c3]
    have b1 : Nat.ble (doff + (m + 1) * 1) dst.length = true := by rw [Nat.ble_eq]; omega
    have b5 : Nat.ble (m + 1) n = true := by rw [Nat.ble_eq]; omega
    obtain ⟨dst', op, type, pos, after, guard⟩ := o
    obtain ⟨callee, args, argTypes⟩ := c
    simp only at ho hcal hat hargs
    subst ho hcal
    have ha : args = #[dd, x] := by rw [← Array.toArray_toList (xs := args), hargs]
    have hb : argTypes = #[dT, xT] := by rw [← Array.toArray_toList (xs := argTypes), hat]
    subst ha hb
    simp only [evW, evE, hu, hs, hd, hx, hsrc, hown, b1, b5, part_one, strOk, Bool.and_true, Bool.true_and, Nat.blt]
    rfl
  refine ⟨fun o ρ H v ob c h => ?_, fun o ρ H v c h => ?_, fun o ρ H v c h => ?_, fun o ρ H v c h => ?_, fun o ρ H v H' c h => ?_⟩
  · obtain ⟨_, _, _, h, k⟩ := key _ _ _ _ h; cases h
  · obtain ⟨_, _, _, h, k⟩ := key _ _ _ _ h; cases h
  · obtain ⟨_, _, _, h, k⟩ := key _ _ _ _ h; cases h
  · obtain ⟨_, _, _, h, k⟩ := key _ _ _ _ h; cases h
  · obtain ⟨_, _, _, h, k⟩ := key _ _ _ _ h; cases h; exact k
def padL (bs : List Int) : List Int := bs ++ 1 :: List.replicate (7 - bs.length) 0
def absF : Nat → S5 → List Int → S5
  | 0, s, _ => s
  | f + 1, s, bs => if 8 ≤ bs.length then absF f (absStep s (wordL (bs.take 8))) (bs.drop 8) else absStep s (wordL (padL bs))
def absorbS (d : Int) (bs : List Int) : S5 := absF (bs.length + 1) (perm ⟨d, 1, 2, 3, 4⟩) bs
def nilE : Value := .slice (some ⟨0, 0, some 1⟩) 0 0
def secI (bs : List Int) (off m : Nat) : List Int := (List.range m).map fun j => bs.getD (off + j) 0

theorem r73r0 (d : Int) (bs : List Int) (n : Nat) (l : List (Nat × AObj)) : (ex3 Tryz.prog pCall noOO 30 (codeOf Tryz.f82 [0]) ⟨⟨[.int .u64 d, .slice (some ⟨0, 0, none⟩) n capG] ++ List.replicate 36 undef, mkH 1 [(0, .ro (bytes bs))] l, []⟩, True⟩).map (obs3 [0, 1, 4] [0, 1])
   = some (⟨0, [.int .u64 d, .slice (some ⟨0, 0, none⟩) n capG, pt 1], 38, 2, [.ro (bytes bs), S5.zero.obj], []⟩, True) := by kernel_rfl
theorem r73r1 (d : Int) (bs : List Int) (n : Nat) (X : Nat → Value) (l : List (Nat × AObj)) : (ex3 Tryz.prog pCall noOO 30 (codeOf Tryz.f82 [1,0]) ⟨⟨mkT 38 [(0, .int .u64 d), (1, .slice (some ⟨0, 0, none⟩) n capG), (4, pt 1)] X, mkH 2 [(0, .ro (bytes bs)), (1, S5.zero.obj)] l, []⟩, True⟩).map (obs3 [1, 4, 5] [0, 1, 2])
   = some (⟨0, [.slice (some ⟨0, 0, none⟩) n capG, pt 1, pt 2], 38, 3, [.ro (bytes bs), S5.zero.obj, (perm ⟨d, 1, 2, 3, 4⟩).obj], []⟩, True) := by kernel_rfl
theorem r73r2 (s : S5) (bs : List Int) (v : Addr) (n c : Nat) (X : Nat → Value) (l : List (Nat × AObj)) : (ex3 Tryz.prog pCall noOO 30 (codeOf Tryz.f82 [1,1,0,0,0,0,0]) ⟨⟨mkT 38 [(1, .slice (some v) n c), (4, pt 1), (5, pt 2)] X, mkH 3 [(0, .ro (bytes bs)), (1, S5.zero.obj), (2, s.obj)] l, []⟩, True⟩).map (obs3 [1, 4, 5, 12] [0, 1, 2])
   = some (⟨0, [.slice (some v) n c, pt 1, pt 2, .bool (decide ((8 : Int) ≤ (n : Int)))], 38, 3, [.ro (bytes bs), S5.zero.obj, s.obj], []⟩, True) := by kernel_rfl
theorem r73b (s : S5) (bs : List Int) (off c : Nat) (X : Nat → Value) (l : List (Nat × AObj)) :
    (ex3 Tryz.prog pCall (orO (callO Tryz.prog (wordC bs)) (orO (sliceU Tryz.prog 16) (sliceE Tryz.prog 23))) 30 (codeOf Tryz.f82 [1,1,0,0,0,1]) ⟨⟨mkT 38 [(1, .slice (some ⟨0, off, none⟩) 8 c), (4, pt 1), (5, pt 2)] X, mkH 3 [(0, .ro (bytes bs)), (1, S5.zero.obj), (2, s.obj)] l, []⟩, True⟩).map (obs3 [1, 4, 5] [0, 1, 2])
     = some (⟨0, [nilE, pt 1, pt 2], 38, 3, [.ro (bytes bs), S5.zero.obj, (absStep s (wordL ((bs.drop off).take 8))).obj], []⟩,
        ((8 : Int) = (8 : Int)) ∧ (some (bytes bs) = some (bytes bs) ∧ 8 = 8 ∧ off + 8 ≤ bs.length) ∧
        (capG ≤ c ∧ (0 : Int) ≤ 0 ∧ (0 : Int) ≤ 8 ∧ (8 : Int) ≤ (8 : Int) ∧ ((0 : Int) = 0 ∨ (0 : Int) < (8 : Int))) ∧ True) := by kernel_rfl
theorem r73t0 (s : S5) (bs : List Int) (X : Nat → Value) (l : List (Nat × AObj)) : (ex3 Tryz.prog pCall noOO 60 (codeOf Tryz.f82 [1,1,1]) ⟨⟨mkT 38 [(1, .slice (some ⟨0, 0, none⟩) 0 capG), (4, pt 1), (5, pt 2)] X, mkH 3 [(0, .ro (bytes bs)), (1, S5.zero.obj), (2, s.obj)] l, []⟩, True⟩).map (fin3 Tryz.prog Tryz.f82 [0])
   = some (⟨1, some (absStep s (wordL (padL []))).arr, 4, [.ro (bytes bs)], []⟩, True) := by kernel_rfl
theorem r73tE (s : S5) (bs : List Int) (X : Nat → Value) (l : List (Nat × AObj)) : (ex3 Tryz.prog pCall noOO 60 (codeOf Tryz.f82 [1,1,1]) ⟨⟨mkT 38 [(1, nilE), (4, pt 1), (5, pt 2)] X, mkH 3 [(0, .ro (bytes bs)), (1, S5.zero.obj), (2, s.obj)] l, []⟩, True⟩).map (fin3 Tryz.prog Tryz.f82 [0])
   = some (⟨1, some (absStep s (wordL (padL []))).arr, 4, [.ro (bytes bs)], []⟩, True) := by kernel_rfl

theorem r73t1 (s : S5) (bs : List Int) (off c : Nat) (X : Nat → Value) (l : List (Nat × AObj)) : (ex3 Tryz.prog pCall (copyO Tryz.prog bs 26) 60 (codeOf Tryz.f82 [1,1,1]) ⟨⟨mkT 38 [(1, .slice (some ⟨0, off, none⟩) 1 c), (4, pt 1), (5, pt 2)] X, mkH 3 [(0, .ro (bytes bs)), (1, S5.zero.obj), (2, s.obj)] l, []⟩, True⟩).map (fin3 Tryz.prog Tryz.f82 [0])
   = some (⟨1, some (absStep s (wordL (padL (secI bs off 1)))).arr, 4, [.ro (bytes bs)], []⟩, (some (bytes bs) = some (bytes bs) ∧ 0 < 1 ∧ off + 1 ≤ bs.length ∧ 0 + 1 ≤ 8 ∧ 1 ≤ 8) ∧ True) := by kernel_rfl
theorem r73t2 (s : S5) (bs : List Int) (off c : Nat) (X : Nat → Value) (l : List (Nat × AObj)) : (ex3 Tryz.prog pCall (copyO Tryz.prog bs 26) 60 (codeOf Tryz.f82 [1,1,1]) ⟨⟨mkT 38 [(1, .slice (some ⟨0, off, none⟩) 2 c), (4, pt 1), (5, pt 2)] X, mkH 3 [(0, .ro (bytes bs)), (1, S5.zero.obj), (2, s.obj)] l, []⟩, True⟩).map (fin3 Tryz.prog Tryz.f82 [0])
   = some (⟨1, some (absStep s (wordL (padL (secI bs off 2)))).arr, 4, [.ro (bytes bs)], []⟩, (some (bytes bs) = some (bytes bs) ∧ 0 < 2 ∧ off + 2 ≤ bs.length ∧ 0 + 2 ≤ 8 ∧ 2 ≤ 8) ∧ True) := by kernel_rfl
theorem r73t3 (s : S5) (bs : List Int) (off c : Nat) (X : Nat → Value) (l : List (Nat × AObj)) : (ex3 Tryz.prog pCall (copyO Tryz.prog bs 26) 60 (codeOf Tryz.f82 [1,1,1]) ⟨⟨mkT 38 [(1, .slice (some ⟨0, off, none⟩) 3 c), (4, pt 1), (5, pt 2)] X, mkH 3 [(0, .ro (bytes bs)), (1, S5.zero.obj), (2, s.obj)] l, []⟩, True⟩).map (fin3 Tryz.prog Tryz.f82 [0])
   = some (⟨1, some (absStep s (wordL (padL (secI bs off 3)))).arr, 4, [.ro (bytes bs)], []⟩, (some (bytes bs) = some (bytes bs) ∧ 0 < 3 ∧ off + 3 ≤ bs.length ∧ 0 + 3 ≤ 8 ∧ 3 ≤ 8) ∧ True) := by kernel_rfl
theorem r73t4 (s : S5) (bs : List Int) (off c : Nat) (X : Nat → Value) (l : List (Nat × AObj)) : (ex3 Tryz.prog pCall (copyO Tryz.prog bs 26) 60 (codeOf Tryz.f82 [1,1,1]) ⟨⟨mkT 38 [(1, .slice (some ⟨0, off, none⟩) 4 c), (4, pt 1), (5, pt 2)] X, mkH 3 [(0, .ro (bytes bs)), (1, S5.zero.obj), (2, s.obj)] l, []⟩, True⟩).map (fin3 Tryz.prog Tryz.f82 [0])
   = some (⟨1, some (absStep s (wordL (padL (secI bs off 4)))).arr, 4, [.ro (bytes bs)], []⟩, (some (bytes bs) = some (bytes bs) ∧ 0 < 4 ∧ off + 4 ≤ bs.length ∧ 0 + 4 ≤ 8 ∧ 4 ≤ 8) ∧ True) := by kernel_rfl
theorem r73t5 (s : S5) (bs : List Int) (off c : Nat) (X : Nat → Value) (l : List (Nat × AObj)) : (ex3 Tryz.prog pCall (copyO Tryz.prog bs 26) 60 (codeOf Tryz.f82 [1,1,1]) ⟨⟨mkT 38 [(1, .slice (some ⟨0, off, none⟩) 5 c), (4, pt 1), (5, pt 2)] X, mkH 3 [(0, .ro (bytes bs)), (1, S5.zero.obj), (2, s.obj)] l, []⟩, True⟩).map (fin3 Tryz.prog Tryz.f82 [0])
   = some (⟨1, some (absStep s (wordL (padL (secI bs off 5)))).arr, 4, [.ro (bytes bs)], []⟩, (some (bytes bs) = some (bytes bs) ∧ 0 < 5 ∧ off + 5 ≤ bs.length ∧ 0 + 5 ≤ 8 ∧ 5 ≤ 8) ∧ True) := by kernel_rfl
theorem r73t6 (s : S5) (bs : List Int) (off c : Nat) (X : Nat → Value) (l : List (Nat × AObj)) : (ex3 Tryz.prog pCall (copyO Tryz.prog bs 26) 60 (codeOf Tryz.f82 [1,1,1]) ⟨⟨mkT 38 [(1, .slice (some ⟨0, off, none⟩) 6 c), (4, pt 1), (5, pt 2)] X, mkH 3 [(0, .ro (bytes bs)), (1, S5.zero.obj), (2, s.obj)] l, []⟩, True⟩).map (fin3 Tryz.prog Tryz.f82 [0])
   = some (⟨1, some (absStep s (wordL (padL (secI bs off 6)))).arr, 4, [.ro (bytes bs)], []⟩, (some (bytes bs) = some (bytes bs) ∧ 0 < 6 ∧ off + 6 ≤ bs.length ∧ 0 + 6 ≤ 8 ∧ 6 ≤ 8) ∧ True) := by kernel_rfl
theorem r73t7 (s : S5) (bs : List Int) (off c : Nat) (X : Nat → Value) (l : List (Nat × AObj)) : (ex3 Tryz.prog pCall (copyO Tryz.prog bs 26) 60 (codeOf Tryz.f82 [1,1,1]) ⟨⟨mkT 38 [(1, .slice (some ⟨0, off, none⟩) 7 c), (4, pt 1), (5, pt 2)] X, mkH 3 [(0, .ro (bytes bs)), (1, S5.zero.obj), (2, s.obj)] l, []⟩, True⟩).map (fin3 Tryz.prog Tryz.f82 [0])
   = some (⟨1, some (absStep s (wordL (padL (secI bs off 7)))).arr, 4, [.ro (bytes bs)], []⟩, (some (bytes bs) = some (bytes bs) ∧ 0 < 7 ∧ off + 7 ≤ bs.length ∧ 0 + 7 ≤ 8 ∧ 7 ≤ 8) ∧ True) := by kernel_rfl

theorem r73t (s : S5) (bs : List Int) (off c : Nat) : ∀ k : Nat, 0 < k → k < 8 → ∀ (X : Nat → Value) (l : List (Nat × AObj)), (ex3 Tryz.prog pCall (copyO Tryz.prog bs 26) 60 (codeOf Tryz.f82 [1,1,1]) ⟨⟨mkT 38 [(1, .slice (some ⟨0, off, none⟩) k c), (4, pt 1), (5, pt 2)] X, mkH 3 [(0, .ro (bytes bs)), (1, S5.zero.obj), (2, s.obj)] l, []⟩, True⟩).map (fin3 Tryz.prog Tryz.f82 [0])
   = some (⟨1, some (absStep s (wordL (padL (secI bs off k)))).arr, 4, [.ro (bytes bs)], []⟩, (some (bytes bs) = some (bytes bs) ∧ 0 < k ∧ off + k ≤ bs.length ∧ 0 + k ≤ 8 ∧ k ≤ 8) ∧ True)
  | 1, _, _ => r73t1 s bs off c | 2, _, _ => r73t2 s bs off c | 3, _, _ => r73t3 s bs off c | 4, _, _ => r73t4 s bs off c | 5, _, _ => r73t5 s bs off c | 6, _, _ => r73t6 s bs off c | 7, _, _ => r73t7 s bs off c
  | 0, h, _ => absurd h (by omega)
  | n + 8, _, h => absurd h (by omega)

theorem secI_eq {bs : List Int} {off m : Nat} (h : off + m = bs.length) : secI bs off m = bs.drop off := by
  refine List.ext_getElem (by simp [secI]; omega) fun i h1 h2 => ?_
  have hi : i < m := by simpa [secI] using h1
  simp [secI, List.getD_eq_getElem?_getD, show off + i < bs.length by omega]

theorem does73 (d : Int) (bs : List Int) : Does Tryz.prog 82 [.int .u64 d, .slice (some ⟨0, 0, none⟩) bs.length capG] ⟨1, [(0, .ro (bytes bs))]⟩ (absorbS d bs).arr ⟨1, [(0, .ro (bytes bs))]⟩ := by
  have hKeep : ∀ H : Heap, H.next = 4 → (∀ p ∈ [(0, AObj.ro (bytes bs))], H.get p.1 = p.2) → Keep ⟨1, [(0, .ro (bytes bs))]⟩ H := fun H h1 h2 => ⟨by rw [h1]; show 1 ≤ 4; omega, fun id hid => by
    have : id = 0 := by have : id < 1 := hid; omega
    subst this
    exact h2 (0, _) (List.mem_cons_self ..)⟩
  refine val_of_awp Tryz.func82 (c := codeOf Tryz.f82 []) rfl (S5.c2 _) ?_
  refine awp_seq (x := codeOf Tryz.f82 [0]) (y := codeOf Tryz.f82 [1]) (piece3 hm pCall_sound noOO_sound 1 [(0, .ro (bytes bs))] rfl (fun p hp => by cases List.mem_singleton.1 hp; rfl) (r73r0 d bs bs.length) trivial ?_)
  intro e X H1 he hn hg
  cases tag0 he
  refine awp_seq (x := codeOf Tryz.f82 [1, 0]) (y := codeOf Tryz.f82 [1, 1]) (piece3 hm pCall_sound noOO_sound _ _ hn hg (r73r1 d bs bs.length X) trivial ?_)
  intro e X H1 he hn hg
  cases tag0 he
  refine awp_seq (x := codeOf Tryz.f82 [1, 1, 0]) (y := codeOf Tryz.f82 [1, 1, 1]) (awp_block (c := codeOf Tryz.f82 [1, 1, 0, 0]) (awp_loop (c := codeOf Tryz.f82 [1, 1, 0, 0, 0])
    (fun m T H D => ∃ off s f t X, off + m = bs.length ∧ m < f ∧ absF f s (bs.drop off) = absorbS d bs ∧ ((t = .slice (some ⟨0, off, none⟩) m (capG + off) ∧ (m = 0 → off = 0)) ∨ (m = 0 ∧ t = nilE)) ∧
      T = mkT 38 [(1, t), (4, pt 1), (5, pt 2)] X ∧ H.next = 3 ∧ (∀ p ∈ [(0, .ro (bytes bs)), (1, S5.zero.obj), (2, s.obj)], H.get p.1 = p.2) ∧ D = [])
    bs.length ⟨0, _, bs.length + 1, _, X, by omega, by omega, rfl, .inl ⟨rfl, fun _ => rfl⟩, rfl, hn, hg, rfl⟩ ?_))
  rintro m T H D ⟨off, s, f, t, X, hoff, hf, habs, ht, rfl, hn, hg, rfl⟩
  obtain ⟨v, c, hv⟩ : ∃ v c, t = .slice (some v) m c := by
    rcases ht with ⟨rfl, _⟩ | ⟨rfl, rfl⟩
    · exact ⟨_, _, rfl⟩
    · exact ⟨_, _, rfl⟩
  refine awp_seq (x := codeOf Tryz.f82 [1, 1, 0, 0, 0, 0]) (y := codeOf Tryz.f82 [1, 1, 0, 0, 0, 1]) (awp_seq (x := codeOf Tryz.f82 [1, 1, 0, 0, 0, 0, 0]) (y := codeOf Tryz.f82 [1, 1, 0, 0, 0, 0, 1]) ?_)
  rw [hv]
  refine piece3 hm pCall_sound noOO_sound _ _ hn hg (r73r2 s bs v m c X) trivial ?_
  intro e X H1 he hn hg
  cases tag0 he
  refine awp_cond (c := .tmp 12) (b := decide ((8 : Int) ≤ (m : Int))) rfl rfl ?_
  obtain ⟨f, rfl⟩ : ∃ k, f = k + 1 := ⟨f - 1, by omega⟩
  by_cases h8 : 8 ≤ m
  · rw [decide_eq_true (show (8 : Int) ≤ (m : Int) by omega)]
    refine awp_skip ?_
    show Awp Tryz.prog (codeOf Tryz.f82 [1, 1, 0, 0, 0, 1]) _ (mkT 38 ([(1, .slice (some v) m c), (4, pt 1), (5, pt 2)] ++ [(12, _)]) X) H1 []
    rw [mkT_app]
    have hlen : 8 ≤ (bs.drop off).length := by simp; omega
    rw [absF, if_pos hlen, List.drop_drop] at habs
    rcases ht with ⟨rfl, _⟩ | ⟨h0, _⟩
    case inr => omega
    cases hv
    rcases Nat.lt_or_ge 8 m with h9 | h9
    · refine piece3 hm pCall_sound (orO_sound (callO_sound wordC_sound) (orO_sound sliceU_sound sliceU_sound)) _ _ hn hg (r73a s bs off m (capG + off) _) ⟨⟨Nat.le_add_right _ _, by omega, by omega, by omega, by omega⟩, ⟨rfl, rfl, by omega⟩, ⟨Nat.le_add_right _ _, by omega, by omega, by omega, by omega⟩, trivial⟩ ?_
      intro e X H1 he hn hg
      cases tag0 he
      exact ⟨m - 8, by omega, off + 8, _, f, _, X, by omega, by omega, habs, .inl ⟨by rw [Nat.add_assoc], by omega⟩, rfl, hn, hg, rfl⟩
    · have : m = 8 := by omega
      subst this
      refine piece3 hm pCall_sound (orO_sound (callO_sound wordC_sound) (orO_sound sliceU_sound sliceE_sound)) _ _ hn hg (r73b s bs off (capG + off) _) ⟨rfl, ⟨rfl, rfl, by omega⟩, ⟨Nat.le_add_right _ _, by omega, by omega, by omega, by omega⟩, trivial⟩ ?_
      intro e X H1 he hn hg
      cases tag0 he
      exact ⟨0, by omega, off + 8, _, f, _, X, by omega, by omega, habs, .inr ⟨rfl, rfl⟩, rfl, hn, hg, rfl⟩
  · rw [decide_eq_false (show ¬ (8 : Int) ≤ (m : Int) by omega)]
    refine awp_exit ?_
    have hlen : ¬ 8 ≤ (bs.drop off).length := by simp; omega
    rw [absF, if_neg hlen] at habs
    show Awp Tryz.prog (codeOf Tryz.f82 [1, 1, 1]) _ (mkT 38 ([(1, .slice (some v) m c), (4, pt 1), (5, pt 2)] ++ [(12, _)]) X) H1 []
    rw [mkT_app]
    rcases ht with ⟨rfl, h0⟩ | ⟨rfl, rfl⟩
    · cases hv
      rcases Nat.eq_zero_or_pos m with rfl | hpos
      · have := h0 rfl
        subst this
        have hbs : bs = [] := List.eq_nil_of_length_eq_zero (by omega)
        refine pieceR3 hm pCall_sound noOO_sound _ _ hn hg (r73t0 s bs _) trivial ?_
        intro e T H1 he hr hn hg
        cases tag1 he
        refine ⟨.inr rfl, rfl, _, hr, ?_, hKeep _ hn hg⟩
        rw [← habs, hbs]; rfl
      · refine pieceR3 hm pCall_sound copyO_sound _ _ hn hg (r73t s bs off (capG + off) m hpos (by omega) _) ⟨⟨rfl, hpos, by omega, by omega, by omega⟩, trivial⟩ ?_
        intro e T H1 he hr hn hg
        cases tag1 he
        refine ⟨.inr rfl, rfl, _, hr, ?_, hKeep _ hn hg⟩
        rw [← habs, secI_eq hoff]
    · cases hv
      refine pieceR3 hm pCall_sound noOO_sound _ _ hn hg (r73tE s bs _) trivial ?_
      intro e T H1 he hr hn hg
      cases tag1 he
      refine ⟨.inr rfl, rfl, _, hr, ?_, hKeep _ hn hg⟩
      have : bs.drop off = [] := List.eq_nil_of_length_eq_zero (by simp; omega)
      rw [← habs, this]

theorem does73f {H : Heap} {d : Int} {id off c : Nat} {cs : List Value} {bs : List Int} (hr : H.row id = some cs) (hw : (cs.drop off).take bs.length = bytes bs) (hb : off + bs.length ≤ cs.length) :
    Does Tryz.prog 82 [.int .u64 d, .slice (some ⟨id, off, none⟩) bs.length c] H (absorbS d bs).arr H :=
  frame_val (does73 d bs) (S5.c2 _) (imp_slice (pre := [.int .u64 d]) (post := []) rfl rfl hr hw hb bytes_c2)
def byteOf (x : Int) (i : Nat) : Int := IntKind.u8.wrap (x.fdiv (2 ^ (8 * i)))
def wordBytes (x : Int) : List Int := [byteOf x 0, byteOf x 1, byteOf x 2, byteOf x 3, byteOf x 4, byteOf x 5, byteOf x 6, byteOf x 7]
def sqz (s : S5) : List Int := wordBytes s.a ++ (wordBytes (perm s).a ++ (wordBytes (perm (perm s)).a ++ wordBytes (perm (perm (perm s))).a))
def dig (l : List Int) : Value := .agg (bytes l).toArray
def sumS (d : Int) (bs : List Int) : List Int := sqz (absorbS d bs)
theorem dig_c2 (l : List Int) : c2 (dig l) = true := by
  simp only [dig, c2, c1, List.all_toArray, List.all_eq_true]
  intro v hv
  obtain ⟨b, _, rfl⟩ := List.mem_map.1 hv
  rfl

/-- What is absorbed of the bytes at block 0. -/
def absC (bs : List Int) : CallC := fun f args H => match args with
  | [.int .u64 d, .slice (some ⟨0, off, none⟩) n _] => bif Nat.beq f 82 then some (.same (absorbS d bs).arr (H.row 0 = some (bytes bs) ∧ off = 0 ∧ n = bs.length)) else none
  | _ => none

theorem absC_sound {bs : List Int} : SoundC Tryz.prog (absC bs) := by
  have key : ∀ f args H r, absC bs f args H = some r → ∃ v q, r = .same v q ∧ (q → Does Tryz.prog f args H v H) := by
    intro f args H r h
    unfold absC at h
    split at h
    case h_2 => cases h
    rename_i d off n c
    obtain ⟨hf, hx⟩ := cond_some h
    clear h
    subst hx
    refine ⟨_, _, rfl, fun ⟨h1, h2, h3⟩ => ?_⟩
    subst h2 h3
    have := beqN hf
    subst this
    exact does73f h1 (by rw [List.drop_zero, show bs.length = (bytes bs).length by simp [bytes], List.take_length]) (by simp [bytes])
  refine ⟨fun f args H v c h hc => ?_, fun f args H v H' c h hc => ?_⟩
  · obtain ⟨_, _, h, k⟩ := key _ _ _ _ h; cases h; exact k hc
  · obtain ⟨_, _, h, k⟩ := key _ _ _ _ h; cases h

theorem r31 (d : Int) (bs : List Int) (n : Nat) (l : List (Nat × AObj)) : (ex3 Tryz.prog pCall (callO Tryz.prog (absC bs)) 60 (codeOf Tryz.f46 []) ⟨⟨[.int .u64 d, .slice (some ⟨0, 0, none⟩) n capG] ++ List.replicate 10 undef, mkH 1 [(0, .ro (bytes bs))] l, []⟩, True⟩).map (fin3 Tryz.prog Tryz.f46 [0])
   = some (⟨1, some (dig (sumS d bs)), 4, [.ro (bytes bs)], [(80, [])]⟩, (some (bytes bs) = some (bytes bs) ∧ 0 = 0 ∧ n = bs.length) ∧ True) := by kernel_rfl

theorem quiet71 : ([((80 : FuncId), ([] : List Value))].all fun d => quietDefer Tryz.prog d.1 && callable Tryz.prog d.1) = true := by kernel_rfl

theorem does31 (d : Int) (bs : List Int) : Does Tryz.prog 46 [.int .u64 d, .slice (some ⟨0, 0, none⟩) bs.length capG] ⟨1, [(0, .ro (bytes bs))]⟩ (dig (sumS d bs)) ⟨1, [(0, .ro (bytes bs))]⟩ := by
  refine val_of_awp Tryz.func46 (c := codeOf Tryz.f46 []) rfl (dig_c2 _) ?_
  refine pieceR3 hm pCall_sound (callO_sound absC_sound) 1 [(0, .ro (bytes bs))] rfl (fun p hp => by cases List.mem_singleton.1 hp; rfl) (r31 d bs bs.length) ⟨⟨rfl, rfl, rfl⟩, trivial⟩ ?_
  intro e T H1 he hr hn hg
  cases tag1 he
  refine ⟨.inr rfl, quiet71, _, hr, rfl, ⟨?_, fun id hid => ?_⟩⟩
  · rw [hn]; show 1 ≤ 4; omega
  · have : id = 0 := by have : id < 1 := hid; omega
    subst this
    exact hg (0, _) (List.mem_cons_self ..)

theorem does31f {H : Heap} {d : Int} {id off c : Nat} {cs : List Value} {bs : List Int} (hr : H.row id = some cs) (hw : (cs.drop off).take bs.length = bytes bs) (hb : off + bs.length ≤ cs.length) :
    Does Tryz.prog 46 [.int .u64 d, .slice (some ⟨id, off, none⟩) bs.length c] H (dig (sumS d bs)) H :=
  frame_val (does31 d bs) (dig_c2 _) (imp_slice (pre := [.int .u64 d]) (post := []) rfl rfl hr hw hb bytes_c2)
end Go.Abs

namespace Go.Abs
open Go.Proofs
def remO (P : Program) (d : Nat) : OpO := fun o ρ _ => match o.dst with
  | some d' => bif Nat.beq d' d then (match o.op with
    | .binOp .rem _ x y _ => match ρ x, ρ y with
      | .int k a, .int k' b => some (.pure (.int k (a.tmod b)) (k = k' ∧ b ≠ 0))
      | _, _ => none
    | _ => none) else none
  | none => none
theorem remO_sound {P : Program} {d : Nat} : SoundO P (remO P d) := by
  have key : ∀ o ρ H r, remO P d o ρ H = some r → ∃ v c, r = .pure v c ∧ (c → SPure P o ρ v) := by
    intro o ρ H r h
    unfold remO at h
    split at h
    case h_2 => cases h
    obtain ⟨_, h⟩ := cond_opt h
    split at h
    case h_2 => cases h
    rename_i t x y yt ho
    split at h
    case h_2 => cases h
    rename_i k a k' b hvx hvy
    cases h
    refine ⟨_, _, rfl, fun ⟨h1, h2⟩ H2 => .of_Q fun B E a' w hH hr => ?_⟩
    subst h1
    have ex := eq_of_c2 (hvx ▸ hr x (by simp [ho, Op.operands])) rfl
    have ey := eq_of_c2 (hvy ▸ hr y (by simp [ho, Op.operands])) rfl
    obtain ⟨dst, op, type, pos, after, guard⟩ := o
    simp only at ho
    subst ho
    refine ⟨_, ?_, .int _ _⟩
    simp [execOp, ex, ey, eqGuard, binOp_rem, Op.intDiv, h2]
  refine ⟨fun o ρ H v ob c h => ?_, fun o ρ H v c h => ?_, fun o ρ H v c h => ?_, fun o ρ H v c h => ?_, fun o ρ H v H' c h => ?_⟩
  · obtain ⟨_, _, h, k⟩ := key _ _ _ _ h; cases h
  · obtain ⟨_, _, h, k⟩ := key _ _ _ _ h; cases h
  · obtain ⟨_, _, h, k⟩ := key _ _ _ _ h; cases h; exact k
  · obtain ⟨_, _, h, k⟩ := key _ _ _ _ h; cases h
  · obtain ⟨_, _, h, k⟩ := key _ _ _ _ h; cases h
end Go.Abs

namespace Go.Abs
open Go.Proofs
set_option maxRecDepth 1000000

def sB (l : List UInt8) : Value := .string ⟨l.toArray⟩
def nil' : Value := .slice none 0 0
def cCols : List Value := [sB [97], .int .i64 1, sB [], sB [], nil', .int .i64 0, .int .i64 0]
def cTabs : List Value := [sB [116], .slice (some ⟨0, 0, none⟩) 1 capG, .int .i64 0, .int .i64 0]
def cNms : List Value := [sB [116]]
def cBks (K : Int) : List Value := [sB [98], .slice (some ⟨2, 0, none⟩) 1 capG, .int .i64 K]
def cAgg : List Value := [.slice (some ⟨1, 0, none⟩) 1 capG, nil', nil', nil', nil', nil', nil', .slice (some ⟨3, 0, none⟩) 1 capG]
def HV (K : Int) : Heap := ⟨4, [(0, .ro cCols), (1, .ro cTabs), (2, .ro cNms), (3, .ro (cBks K))]⟩
end Go.Abs

