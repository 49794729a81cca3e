/- BackupKeeps of law 31: Keep and Expire of the program return the lists of the specification, for all days, numbers of days and today; no condition. -/
import Derived.Test.YtafcagkhojhbbaaGreatKZ1
set_option linter.unusedSimpArgs false
set_option linter.unusedVariables false
namespace Go.Abs
open Go.Proofs
set_option maxRecDepth 1000000
theorem all_bytes (l : List Int) : (bytes l).all c0 = true := by
  rw [List.all_eq_true]
  intro v hv
  obtain ⟨b, _, rfl⟩ := List.mem_map.1 hv
  rfl
theorem c2_vlt : c2 vltV = true := by
  show (bytes dgA ++ (bytes dgB ++ [nilS])).toArray.all c0 = true
  rw [List.all_toArray, List.all_append, List.all_append, all_bytes, all_bytes]
  rfl
theorem c2_val : c2 (.tuple #[valV, i64 0]) = true := by
  show (([valV, i64 0] : List Value).toArray).all c1 = true
  rw [List.all_toArray]
  show (([i64 1, i64 4, .string ⟨#[]⟩] : List Value).toArray.all c0 && (true && true)) = true
  rw [List.all_toArray]
  rfl

theorem FC.closed {f : FuncId} {args : List Value} {v : Value} (h : ∀ H, Does Tryz.prog f args H v H) (hv : c2 v = true) (H : Heap) (id : Nat) : FC Tryz.prog f args H id v [] :=
  ⟨fun ob hob => (by cases hob), fun H2 _ => ⟨v, h _, fun σ _ => .closed hv⟩⟩

theorem does35 (H : Heap) : Does Tryz.prog 35 [vltV, nilS] H vltV H := closed_of_run O4_sound run35 (by rw [List.all_cons, c2_vlt]; rfl) c2_vlt H
def g35 : List Value → Heap → Nat → Option (Value × List AObj × Prop) := fun args H id => some (vltV, [], args = [vltV, nilS])
theorem f35 : SoundF Tryz.prog (fcO Tryz.prog 35 g35) := fcO_sound fun args H id v obs c h hc => by
  cases h
  subst hc
  exact FC.closed does35 c2_vlt H id

theorem run34 : (ex Tryz.prog O4 1000 (codeOf Tryz.f34 []) ⟨a34 ++ List.replicate 99 undef, ⟨0, []⟩, []⟩).map (fun r => (r.1.tag, resA Tryz.prog Tryz.f34 r.2.T r.2.H, r.2.H.get 17, r.2.D.all fun d => quietDefer Tryz.prog d.1 && callable Tryz.prog d.1))
  = some (1, some (.tuple #[sealV 17, i64 0]), .grow (bytes [2, 8]) 5, true) := by kernel_rfl
def o34 : List AObj := [.grow (bytes [2, 8]) 5]
theorem o34_shut : ∀ ob ∈ o34, Shut ob := fun ob hob => by
  simp only [o34, List.mem_singleton] at hob
  subst hob
  exact ⟨_, _, .inl rfl, bytes_c2⟩
theorem rv_seal {σ : Nat → Option Nat} {i j : Nat} (h : σ j = some i) : RV σ (.tuple #[sealV i, i64 0]) (.tuple #[sealV j, i64 0]) := by
  refine RV.tuples (l := [sealV i, i64 0]) (m := [sealV j, i64 0]) (.cons (RV.aggs (.cons (.closed rfl) (.cons (.closed rfl) (.cons (.closed rfl) (.cons (.closed rfl) (.cons (.slice h) (RV.all bytes_c2))))))) (.cons (.closed rfl) .nil))
theorem does34 : Does Tryz.prog 34 a34 ⟨0, []⟩ (.tuple #[sealV 0, i64 0]) (pushAll ⟨0, []⟩ o34) := by
  refine news_of_awp Tryz.func34 (c := codeOf Tryz.f34 []) rfl o34_shut ?_
  have h := run34
  cases hr : ex Tryz.prog O4 1000 (codeOf Tryz.f34 []) ⟨a34 ++ List.replicate 99 undef, ⟨0, []⟩, []⟩ with
  | none => rw [hr] at h; cases h
  | some r =>
    rw [hr] at h
    simp only [Option.map_some, Option.some.injEq, Prod.mk.injEq] at h
    obtain ⟨h1, h2, h3, h4⟩ := h
    refine awp_mono (ex_sound hm O4_sound 1000 _ _ r hr) ?_
    rintro e T H D ⟨rfl, rfl, rfl, rfl⟩
    refine ⟨.inr (by rw [tag1 h1]; rfl), h4, _, h2, ⟨[17], by simp, by simp, by simp [h3, o34], fun σ hσ => rv_seal (hσ 0 17 rfl)⟩, ⟨Nat.zero_le _, fun id hid => by cases hid⟩⟩
theorem a34_c2 : a34.all c2 = true := by
  show (c2 vltV && (true && (true && (true && (c2 valV && true))))) = true
  rw [c2_vlt]
  have : c2 valV = true := by
    show (([i64 1, i64 4, .string ⟨#[]⟩] : List Value).toArray.all c0) = true
    rw [List.all_toArray]; rfl
  rw [this]; rfl
def g34 : List Value → Heap → Nat → Option (Value × List AObj × Prop) := fun args H id => some (.tuple #[sealV id, i64 0], o34, args = a34)
theorem f34 : SoundF Tryz.prog (fcO Tryz.prog 34 g34) := fcO_sound fun args H id v obs c h hc => by
  cases h
  subst hc
  refine ⟨o34_shut, fun H2 _ => ⟨.tuple #[sealV H2.next, i64 0], ?_, fun σ hσ => rv_seal (by simpa using hσ 0 (by simp [o34]))⟩⟩
  have hn : (roH H2).next = H2.next := rfl
  exact frame_news (H0 := ⟨0, []⟩) does34 o34_shut (imp_closed _ a34_c2) fun σ hσ => rv_seal (by simpa [hn] using hσ 0 (by simp [o34]))

theorem run38 : vW (inC Tryz.prog C4 (deepO Tryz.prog C4 (ifO endB (sliceE Tryz.prog 63)) 300 [73,107,142,143,196,228] 6) 300 [38] 38 [vltV, sealV 0] ⟨1, [(0, .ro (bytes [2, 8]))]⟩)
  = some (.tuple #[valV, i64 0], 26, (((some valV = some valV ∧ ((((Int.ofNat 1 = Int.ofNat 1) ∧ True) ∧ True) ∧ (True ∧ True) ∧ True) ∧ True) ∧ True) ∧ True) ∧ (some (Value.agg (bytes dgC).toArray) = some (Value.agg (bytes dgC).toArray)) ∧ True) := by kernel_rfl
theorem does38 : ∃ H', Does Tryz.prog 38 [vltV, sealV 0] ⟨1, [(0, .ro (bytes [2, 8]))]⟩ (.tuple #[valV, i64 0]) H' :=
  does_vW (inC_sound hm C4_sound (deepO_sound hm C4_sound (ifO_sound sliceE_sound) 6)) run38 ⟨⟨⟨⟨rfl, ⟨⟨⟨rfl, trivial⟩, trivial⟩, ⟨trivial, trivial⟩, trivial⟩, trivial⟩, trivial⟩, trivial⟩, rfl, trivial⟩
def g38 : List Value → Heap → Nat → Option (Value × List AObj × Prop) := fun args H id => match args with
  | [_, .agg ⟨_ :: _ :: _ :: _ :: .slice (some ⟨i, 0, none⟩) 2 _ :: _⟩] => some (.tuple #[valV, i64 0], [], args = [vltV, sealV i] ∧ H.row i = some (bytes [2, 8]))
  | _ => none
theorem f38 : SoundF Tryz.prog (fcO Tryz.prog 38 g38) := fcO_sound fun args H id v obs c h hc => by
  unfold g38 at h
  split at h
  case h_2 => cases h
  rename_i x1 x2 x3 x4 x5 i c1 x6
  cases h
  obtain ⟨h1, h2⟩ := hc
  rw [h1]
  obtain ⟨H', hd⟩ := does38
  refine ⟨fun ob hob => (by cases hob), fun H2 hsub => ⟨.tuple #[valV, i64 0], frame_val hd c2_val (imp_gen (fun j => if j = 0 then some (i, 0, capG) else none) ?_ ?_ ?_), fun σ _ => .closed c2_val⟩⟩
  · intro j x hj
    by_cases h0 : j = 0
    · omega
    · simp [h0] at hj
  · exact .cons (.closed c2_vlt) (.cons (RI.agg (.cons (.closed rfl) (.cons (.closed rfl) (.cons (.closed rfl) (.cons (.closed rfl) (.cons (RI.slice rfl) (RI.all bytes_c2))))))) .nil)
  · intro p hp
    simp only [List.mem_singleton] at hp
    subst hp
    exact .inr ⟨i, 0, capG, bytes [2, 8], bytes [2, 8], bytes [2, 8], rfl, by rw [roH_row]; exact row_mono hsub h2, rfl, rfl, RI.all bytes_c2, Nat.le_refl _⟩

def vG (k : Nat) (r : Option CallR) : Option (Value × AObj × Prop) := match r with
  | some (.eff v H c) => some (v, H.get k, c)
  | _ => none
theorem run31 : vG 2 (inC Tryz.prog C4 (appE Tryz.prog 7) 60 [31] 31 [.slice (some ⟨0, 0, none⟩) 1 capG] ⟨1, [(0, .ro [i64 1])]⟩)
  = some (.slice (some ⟨2, 0, none⟩) 1 capG, .grow [i64 1] 3, AppN 1 0 8 1 0 [i64 1] ∧ True) := by kernel_rfl
theorem does31i {H : Heap} {i c : Nat} (h : H.row i = some [i64 1]) : Does Tryz.prog 31 [.slice (some ⟨i, 0, none⟩) 1 c] H (.slice (some ⟨H.next, 0, none⟩) 1 capG) (H.push (.grow [i64 1] 3)) := by
  have hr := run31
  unfold vG at hr
  split at hr
  case h_2 => cases hr
  rename_i v H' q hx
  simp only [Option.some.injEq, Prod.mk.injEq] at hr
  obtain ⟨rfl, h2, rfl⟩ := hr
  have hd := (inC_sound hm C4_sound (appE_sound (P := Tryz.prog) (d := 7))).eff _ _ _ _ _ _ hx ⟨⟨rfl, by decide, by decide, by decide, by decide⟩, trivial⟩
  exact frame_new hd h2 (by simp [c2, c1, c0]) (imp_slice (pre := []) (post := []) (off := 0) (m := 1) rfl rfl h rfl (Nat.le_refl _) (by simp [c2, c1, c0]))
def g31 : List Value → Heap → Nat → Option (Value × List AObj × Prop) := fun args H id => match args with
  | [.slice (some ⟨i, 0, none⟩) 1 _] => some (.slice (some ⟨id, 0, none⟩) 1 capG, [.grow [i64 1] 3], H.row i = some [i64 1])
  | _ => none
theorem f31 : SoundF Tryz.prog (fcO Tryz.prog 31 g31) := fcO_sound fun args H id v obs c h hc => by
  unfold g31 at h
  split at h
  case h_2 => cases h
  rename_i i cp
  cases h
  refine ⟨fun ob hob => ?_, fun H2 hsub => ⟨.slice (some ⟨H2.next, 0, none⟩) 1 capG, does31i (by rw [roH_row]; exact row_mono hsub hc), fun σ hσ => .slice (by simpa using hσ 0 (by simp))⟩⟩
  simp only [List.mem_singleton] at hob
  subst hob
  exact ⟨_, _, .inl rfl, by simp [c2, c1, c0]⟩
noncomputable def F4 : FrO := orF (fcO Tryz.prog 31 g31) (orF (fcO Tryz.prog 34 g34) (orF (fcO Tryz.prog 35 g35) (fcO Tryz.prog 38 g38)))
theorem F4_sound : SoundF Tryz.prog F4 := orF_sound f31 (orF_sound f34 (orF_sound f35 f38))
def z83 : List Value := [i64 0, nilS, i64 0, nilS, nilS] ++ bytes (List.replicate 32 0)
def DX4 : DxT := fun id n => bif Nat.beq id 11 && Nat.beq n 15 then some (13, [[], [], [], [], [], [], [], [], o34, [], [], [], [.cells z83 83]], [false, false, false, false, false, false, false, false, false, false, false, true])
  else bif Nat.beq id 6 && Nat.beq n 12 then some (10, [[], [], [], [], [], [], [], [], [], [.cells [i64 0, i64 0, .string ⟨#[]⟩] 54]], [false, false, false, false, false, false, false, false, true])
  else bif Nat.beq id 1 && Nat.beq n 8 then some (7, [[], [], [.grow [i64 1] 3], [], [], [], [.cells [nilS, nilS, i64 0] 78]], []) else none
noncomputable def I4 : CallC := inC4 Tryz.prog F4 DX4 C4 (deepO4 Tryz.prog F4 DX4 C4 noOO 1000 [11, 30, 12, 37] 3) 1000 [4]
theorem I4_sound : SoundC Tryz.prog I4 := inC4_sound hm F4_sound C4_sound (deepO4_sound hm F4_sound C4_sound noOO_sound 3)
end Go.Abs

