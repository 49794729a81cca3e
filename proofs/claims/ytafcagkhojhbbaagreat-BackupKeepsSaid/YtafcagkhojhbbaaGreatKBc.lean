/- BackupKeeps of law 31: Keep and Expire of the program return the lists of the specification, for all days, numbers of days and today; no condition. -/
import Derived.Test.YtafcagkhojhbbaaGreatKBb
set_option linter.unusedSimpArgs false
set_option linter.unusedVariables false
namespace Go.Abs
def forceO (P : Program) (d : Nat) (v : Value) : OpO := fun o ρ H => match o.dst with
  | some d' => bif Nat.beq d' d then (bif isRead o.op then none else some (.pure v (evR P ρ H o = some v))) else none
  | none => none
theorem forceO_sound {P : Program} {d : Nat} {v : Value} : SoundO P (forceO P d v) := by
  have key : ∀ o ρ H r, forceO P d v o ρ H = some r → ∃ c, r = .pure v c ∧ (c → SPure P o ρ v) := by
    intro o ρ H r h
    unfold forceO at h
    split at h
    case h_2 => cases h
    obtain ⟨_, h⟩ := cond_opt h
    cases hb : isRead o.op with
    | true => rw [hb] at h; cases h
    | false =>
      rw [hb] at h
      cases h
      exact ⟨_, rfl, fun hc H2 => .of_ev (by rw [evR_noheap hb H2 H]; exact hc)⟩
  refine ⟨fun o ρ H v ob c h => ?_, fun o ρ H v c h => ?_, fun o ρ H v c h => ?_, fun o ρ H v c h => ?_, fun o ρ H v H' c h => ?_⟩
  · obtain ⟨_, h, k⟩ := key _ _ _ _ h; cases h
  · obtain ⟨_, h, k⟩ := key _ _ _ _ h; cases h
  · obtain ⟨_, h, k⟩ := key _ _ _ _ h; cases h; exact k
  · obtain ⟨_, h, k⟩ := key _ _ _ _ h; cases h
  · obtain ⟨_, h, k⟩ := key _ _ _ _ h; cases h
/-- Functions that are run in place, and those that they call, to a depth. -/
def deepO (P : Program) (call : CallF) (base : OpO) (m : Nat) (fs : List Nat) : Nat → OpO
  | 0 => base
  | n + 1 => orO base (callO P (inC P call (deepO P call base m fs n) m fs))
theorem deepO_sound {P : Program} (hm : P.follows .mixedOrders = true) {call : CallF} (hO : ∀ f args H v h, call f args H = some (v, h) → Does P f args H v (h.getD H)) {base : OpO} (hb : SoundO P base) {m : Nat} {fs : List Nat} : ∀ n, SoundO P (deepO P call base m fs n)
  | 0 => hb
  | n + 1 => orO_sound hb (callO_sound (inC_sound hm hO (deepO_sound hm hO hb n)))
abbrev i64 (x : Int) : Value := .int .i64 x
abbrev nilS : Value := .slice none 0 0
end Go.Abs

namespace Go.Abs
open Go.RowKit (Below)
abbrev DxT := Nat → Nat → Option (Nat × List (List AObj) × List Bool)

def exF4 (P : Program) (F : FrO) (DX : DxT) (call : CallF) (OO : OpO) (run : Code → St3 → Option (Ex × St3)) (c : Code) (s : St3) : Option (Ex × St3) :=
  match c with
  | .skip => some (.normal, s)
  | .region _ ops false => match rEv3 P call OO ops ops.toList s.T s.H s.D s.L with
    | some (T, H, D, L) => some (.normal, ⟨⟨T, H, D⟩, L⟩)
    | none => none
  | .region id ops true => bif regOK ops then (match dEv3 P call OO ops (Region.before ops) false ops.toList 0 s.T s.H s.H [] [] [] 0 0 s.L with
    | some (T, H, L) => some (.normal, ⟨⟨T, H, s.D⟩, L⟩)
    | none => match dEv3 P call OO ops (Region.before ops) true ops.toList 0 s.T s.H s.H [] [] [] 0 0 s.L with
      | some (T, H, L) => some (.normal, ⟨⟨T, H, s.D⟩, L⟩)
      | none => match DX id ops.size with
        | some (m, os, fs) => dx P F call ops m os fs s
        | none => none) else none
  | .seq x y => match run x s with
    | some (.normal, s') => run y s'
    | r => r
  | .cond c x y => bif okOperand c then (match ev s.T c with
    | .bool true => run x s
    | .bool false => run y s
    | _ => none) else none
  | .block id b => match run b s with
    | some (.exit id', s') => bif Nat.beq id' id then some (.normal, s') else some (.exit id', s')
    | r => r
  | .loop b => match run b s with
    | some (.normal, s') => run (.loop b) s'
    | r => r
  | .exit id => some (.exit id, s)
  | .ret => some (.ret, s)
  | _ => none

def ex4 (P : Program) (F : FrO) (DX : DxT) (call : CallF) (OO : OpO) (n : Nat) : Code → St3 → Option (Ex × St3) :=
  Nat.rec (motive := fun _ => Code → St3 → Option (Ex × St3)) (fun _ _ => none) (fun _ ih => exF4 P F DX call OO ih) n

theorem ex4_succ (P : Program) (F : FrO) (DX : DxT) (call : CallF) (OO : OpO) (n : Nat) (c : Code) (s : St3) : ex4 P F DX call OO (n + 1) c s = exF4 P F DX call OO (ex4 P F DX call OO n) c s := rfl

theorem ex4_sound {P : Program} (hm : P.follows .mixedOrders = true) {F : FrO} (hF : SoundF P F) {DX : DxT} {call : CallF} (hcall : ∀ f args H v h, call f args H = some (v, h) → Does P f args H v (h.getD H)) {OO : OpO} (hOO : SoundO P OO) : ∀ (n : Nat) (c : Code) (s : St3) (r : Ex × St3), ex4 P F DX call OO n c s = some r → r.2.L → s.L ∧ Awp P c (Is3 r) s.T s.H s.D := by
  intro n
  induction n using Nat.strongRecOn with
  | _ n ih =>
    intro c s r h hL
    cases n with
    | zero => cases h
    | succ n =>
      have ihn : ∀ c s r, ex4 P F DX call OO n c s = some r → r.2.L → s.L ∧ Awp P c (Is3 r) s.T s.H s.D := ih n (Nat.lt_succ_self n)
      rw [ex4_succ] at h
      cases c with
      | skip => simp only [exF4, Option.some.injEq] at h; subst h; exact ⟨hL, awp_skip (Is3.mk' _ _)⟩
      | exit id => simp only [exF4, Option.some.injEq] at h; subst h; exact ⟨hL, awp_exit (Is3.mk' _ _)⟩
      | ret => simp only [exF4, Option.some.injEq] at h; subst h; exact ⟨hL, awp_ret (Is3.mk' _ _)⟩
      | region id ops draw =>
        cases draw with
        | false =>
          simp only [exF4] at h
          split at h
          case h_2 => cases h
          rename_i T' H' D' L' hr
          simp only [Option.some.injEq] at h; subst h
          obtain ⟨hl, hrun⟩ := rEv3_sound hcall hOO ops.toList s.T s.H s.D s.L T' H' D' L' hr hL
          refine ⟨hl, awp_mono (Q := fun e T2 H2 D2 => e = .normal ∧ T2 = T' ∧ H2 = H' ∧ D2 = D') (awp_region ?_) (fun e T H D h => h)⟩
          simpa using hrun
        | true =>
          simp only [exF4] at h
          obtain ⟨hreg, h⟩ := cond_opt h
          split at h
          · rename_i T' H' L' hr
            simp only [Option.some.injEq] at h; subst h
            obtain ⟨hl, hrun⟩ := dEv3_sound hcall hOO s.D ops.toList 0 s.T s.H s.H [] [] [] 0 0 s.L T' H' L' (fun _ => rfl) (fun r hr => by simp at hr) (fun p hp => by simp at hp) hr hL
            refine ⟨hl, awp_mono (Q := fun e T2 H2 D2 => e = .normal ∧ T2 = T' ∧ H2 = H' ∧ D2 = s.D) (awp_draw hm hreg ?_) (fun e T H D h => h)⟩
            simpa using hrun
          · split at h
            · rename_i T' H' L' hr
              simp only [Option.some.injEq] at h; subst h
              obtain ⟨hl, hrun⟩ := dEv3_sound hcall hOO s.D ops.toList 0 s.T s.H s.H [] [] [] 0 0 s.L T' H' L' (fun _ => rfl) (fun r hr => by simp at hr) (fun p hp => by simp at hp) hr hL
              refine ⟨hl, awp_mono (Q := fun e T2 H2 D2 => e = .normal ∧ T2 = T' ∧ H2 = H' ∧ D2 = s.D) (awp_draw hm hreg ?_) (fun e T H D h => h)⟩
              simpa using hrun
            · split at h
              case h_2 => cases h
              obtain ⟨hl, _, hw⟩ := dx_sound hm hF hcall (id := id) h hL
              exact ⟨hl, hw⟩
      | seq x y =>
        simp only [exF4] at h
        split at h
        · rename_i s' hx
          obtain ⟨hl2, h2⟩ := ihn _ _ _ h hL
          obtain ⟨hl1, h1⟩ := ihn _ _ _ hx hl2
          refine ⟨hl1, awp_seq (awp_mono h1 ?_)⟩
          rintro e T H D ⟨rfl, rfl, rfl, rfl⟩
          exact h2
        · rename_i hne
          obtain ⟨hl1, h1⟩ := ihn _ _ _ h hL
          refine ⟨hl1, awp_seq (awp_mono h1 ?_)⟩
          rintro e T H D ⟨rfl, rfl, rfl, rfl⟩
          obtain ⟨e, s'⟩ := r
          cases e with
          | normal => exact absurd h (hne s')
          | exit id => exact Is3.mk' _ _
          | ret => exact Is3.mk' _ _
      | cond c x y =>
        simp only [exF4] at h
        obtain ⟨hok, h⟩ := cond_opt h
        split at h
        · rename_i hc; obtain ⟨hl, h1⟩ := ihn _ _ _ h hL; exact ⟨hl, awp_cond hok hc h1⟩
        · rename_i hc; obtain ⟨hl, h1⟩ := ihn _ _ _ h hL; exact ⟨hl, awp_cond hok hc h1⟩
        · cases h
      | block id b =>
        simp only [exF4] at h
        split at h
        · rename_i id' s' hb
          rcases cond_bool h with ⟨hid, h⟩ | ⟨hid, h⟩
          · simp only [Option.some.injEq] at h; subst h
            obtain ⟨hl, h1⟩ := ihn _ _ _ hb hL
            refine ⟨hl, awp_block (awp_mono h1 ?_)⟩
            rintro e T H D ⟨rfl, rfl, rfl, rfl⟩
            show if id' = id then _ else _
            rw [if_pos (beqN hid)]
            exact Is3.mk' _ _
          · simp only [Option.some.injEq] at h; subst h
            obtain ⟨hl, h1⟩ := ihn _ _ _ hb hL
            refine ⟨hl, awp_block (awp_mono h1 ?_)⟩
            rintro e T H D ⟨rfl, rfl, rfl, rfl⟩
            show if id' = id then _ else _
            rw [if_neg (fun e => by subst e; simp at hid)]
            exact Is3.mk' _ _
        · rename_i hne
          obtain ⟨hl, h1⟩ := ihn _ _ _ h hL
          refine ⟨hl, awp_block (awp_mono h1 ?_)⟩
          rintro e T H D ⟨rfl, rfl, rfl, rfl⟩
          obtain ⟨e, s'⟩ := r
          cases e with
          | exit id' => exact absurd h (hne id' s')
          | normal => exact Is3.mk' _ _
          | ret => exact Is3.mk' _ _
      | loop b =>
        have hlog : s.L := by
          simp only [exF4] at h
          split at h
          · rename_i s' hb
            exact (ihn _ _ _ hb (ihn _ _ _ h hL).1).1
          · exact (ihn _ _ _ h hL).1
        refine ⟨hlog, awp_loop (fun k T H D => k ≤ n + 1 ∧ ∃ L, ex4 P F DX call OO k (.loop b) ⟨⟨T, H, D⟩, L⟩ = some r) (n + 1) ⟨Nat.le_refl _, s.L, by rw [ex4_succ]; exact h⟩ ?_⟩
        rintro k T H D ⟨hk, L, hx⟩
        cases k with
        | zero => cases hx
        | succ k =>
          have ihk : ∀ c s r, ex4 P F DX call OO k c s = some r → r.2.L → s.L ∧ Awp P c (Is3 r) s.T s.H s.D := ih k (by omega)
          rw [ex4_succ] at hx
          simp only [exF4] at hx
          split at hx
          · rename_i s' hb
            refine awp_mono (ihk _ _ _ hb (ihk _ _ _ hx hL).1).2 ?_
            rintro e T' H' D' ⟨rfl, rfl, rfl, rfl⟩
            exact ⟨k, Nat.lt_succ_self k, by omega, s'.L, hx⟩
          · rename_i hne
            refine awp_mono (ihk _ _ _ hx hL).2 ?_
            rintro e T' H' D' ⟨rfl, rfl, rfl, rfl⟩
            obtain ⟨e, s'⟩ := r
            cases e with
            | normal => exact absurd hx (hne s')
            | exit id => exact Is3.mk' _ _
            | ret => exact Is3.mk' _ _
      | scope b => simp [exF4] at h
      | label l => simp [exF4] at h
      | rangeFunc f ps x y => simp [exF4] at h
      | goto l => simp [exF4] at h
      | refuse why => simp [exF4] at h
end Go.Abs

namespace Go.Abs
/-- Functions that are run in place, with regions whose first operations are fresh. -/
def inC4 (P : Program) (F : FrO) (DX : DxT) (call : CallF) (OO : OpO) (m : Nat) (fs : List Nat) : CallC := fun f args H =>
  bif fs.any (Nat.beq f) then (match P.funcs[f]? with
    | some fn => match fn.body with
      | some c => match ex4 P F DX call OO m c ⟨⟨args ++ List.replicate (fn.ntmps - args.length) undef, H, []⟩, True⟩ with
        | some (.exit _, _) => none
        | some (_, s) => bif s.D.all (fun d => quietDefer P d.1 && callable P d.1) then (match resA P fn s.T s.H with
          | some v => some (.eff v s.H s.L)
          | none => none) else none
        | none => none
      | none => none
    | none => none) else none

theorem inC4_sound {P : Program} (hm : P.follows .mixedOrders = true) {F : FrO} (hF : SoundF P F) {DX : DxT} {call : CallF} (hO : ∀ f args H v h, call f args H = some (v, h) → Does P f args H v (h.getD H)) {OO : OpO} (hOO : SoundO P OO) {m : Nat} {fs : List Nat} : SoundC P (inC4 P F DX call OO m fs) := by
  have key : ∀ f args H r, inC4 P F DX call OO m fs f args H = some r → ∃ v H' c, r = .eff v H' c ∧ (c → Does P f args H v H') := by
    intro f args H r h
    unfold inC4 at h
    obtain ⟨_, h⟩ := cond_opt h
    split at h
    case h_2 => cases h
    rename_i fn hf
    split at h
    case h_2 => cases h
    rename_i c hb
    split at h
    · cases h
    · rename_i e s hne hr
      obtain ⟨hD, h⟩ := cond_opt h
      split at h
      case h_2 => cases h
      rename_i v' hv
      cases h
      refine ⟨_, _, _, rfl, fun hL => ?_⟩
      refine does_of_awp hf hb (awp_mono (ex4_sound hm hF hO hOO m c _ _ hr hL).2 ?_)
      rintro e' T' H2 D' ⟨rfl, rfl, rfl, rfl⟩
      refine ⟨?_, hD, hv, rfl⟩
      cases e with
      | normal => exact .inl rfl
      | ret => exact .inr rfl
      | exit id => exact (hne id rfl).elim
    · cases h
  refine ⟨fun f args H v c h hc => ?_, fun f args H v H' c h hc => ?_⟩
  · obtain ⟨_, _, _, h, k⟩ := key _ _ _ _ h; cases h
  · obtain ⟨_, _, _, h, k⟩ := key _ _ _ _ h; cases h; exact k hc
def deepO4 (P : Program) (F : FrO) (DX : DxT) (call : CallF) (base : OpO) (m : Nat) (fs : List Nat) : Nat → OpO
  | 0 => base
  | n + 1 => orO base (callO P (inC4 P F DX call (deepO4 P F DX call base m fs n) m fs))
theorem deepO4_sound {P : Program} (hm : P.follows .mixedOrders = true) {F : FrO} (hF : SoundF P F) {DX : DxT} {call : CallF} (hO : ∀ f args H v h, call f args H = some (v, h) → Does P f args H v (h.getD H)) {base : OpO} (hb : SoundO P base) {m : Nat} {fs : List Nat} : ∀ n, SoundO P (deepO4 P F DX call base m fs n)
  | 0 => hb
  | n + 1 => orO_sound hb (callO_sound (inC4_sound hm hF hO (deepO4_sound hm hF hO hb n)))
/-- An oracle, where a test holds. -/
def ifO (b : Oper → (Operand → Value) → Heap → Bool) (OO : OpO) : OpO := fun o ρ H => bif b o ρ H then OO o ρ H else none
theorem ifO_sound {P : Program} {b : Oper → (Operand → Value) → Heap → Bool} {OO : OpO} (h : SoundO P OO) : SoundO P (ifO b OO) :=
  ⟨fun o ρ H v ob c k => h.fr o ρ H v ob c (cond_opt k).2, fun o ρ H v c k => h.rd o ρ H v c (cond_opt k).2, fun o ρ H v c k => h.pure o ρ H v c (cond_opt k).2, fun o ρ H v c k => h.same o ρ H v c (cond_opt k).2, fun o ρ H v H' c k => h.eff o ρ H v H' c (cond_opt k).2⟩
/-- A slice's end, where it is seen to be one. -/
def endB : Oper → (Operand → Value) → Heap → Bool := fun o ρ _ => match o.op with
  | .slice _ x (some lo) none none => match ρ x, ρ lo with
    | .slice (some _) n _, .int _ k => decide (k = (n : Int))
    | _, _ => false
  | _ => false
end Go.Abs

namespace Go.Abs
open Go.RowKit (Below)
theorem HRel.addNew {P : Program} {B : Nat} {E : Env} {H : Heap} {w : World} {o : AObj} {l : Loc} (h : HRel P B E H w) (ho : OR P B (E.add H.next l) w H.next o) (hf : ∀ j lj, E j = some lj → (H.get j).mut = true → lj.blk ≠ l.blk) : HRel P B (E.add H.next l) (H.push o) w := by
  have hle := Env.le_add (l := l) h.newId
  refine ⟨h.base, fun i l2 hi2 => ?_, fun i => ?_, fun i j li lj hi2 hj mi mj hbb => ?_⟩
  · unfold Env.add at hi2
    split at hi2
    · rename_i e; subst e; exact Nat.lt_succ_self _
    · exact Nat.lt_succ_of_lt (h.dom _ _ hi2)
  · rw [Heap.get_push]
    split
    · rename_i e1; subst e1; exact ho
    · exact (h.obj i).congr hle (fun _ _ => rfl)
  · have key : ∀ j lj, (E.add H.next l) j = some lj → ((H.push o).get j).mut = true → j ≠ H.next → E j = some lj ∧ (H.get j).mut = true := by
      intro j lj hj mj hnj
      rw [Heap.get_push, if_neg (fun e => hnj e.symm)] at mj
      simp only [Env.add, if_neg hnj] at hj
      exact ⟨hj, mj⟩
    by_cases e1 : i = H.next <;> by_cases e2 : j = H.next
    · rw [e1, e2]
    · exfalso
      obtain ⟨q1, q2⟩ := key j lj hj mj e2
      subst e1
      simp only [Env.add, if_true, Option.some.injEq] at hi2
      subst hi2
      exact hf j lj q1 q2 hbb.symm
    · exfalso
      obtain ⟨q1, q2⟩ := key i li hi2 mi e1
      subst e2
      simp only [Env.add, if_true, Option.some.injEq] at hj
      subst hj
      exact hf i li q1 q2 hbb
    · obtain ⟨q1, q2⟩ := key i li hi2 mi e1
      obtain ⟨r1, r2⟩ := key j lj hj mj e2
      exact h.inj i j li lj q1 r1 q2 r2 hbb
theorem addNews {P : Program} {B B0 : Nat} {E' : Env} {H' : Heap} {w' : World} (h2 : HRel P B0 E' H' w') (hB : B ≤ B0) : ∀ (ids : List Nat) (E : Env) (H : Heap), HRel P B E H w' → (∀ id ∈ ids, Shut (H'.get id)) → ids.Nodup →
    (∀ j lj, E j = some lj → (H.get j).mut = true → lj.blk < B0 ∨ ∃ id, id ∉ ids ∧ E' id = some lj ∧ (H'.get id).mut = true) →
    ∃ E2, E.le E2 ∧ HRel P B E2 (pushAll H (ids.map H'.get)) w' ∧ ∀ k id, ids[k]? = some id → E2 (H.next + k) = E' id
  | [], E, H, h, _, _, _ => ⟨E, .refl E, h, fun k id hk => by simp at hk⟩
  | id :: ids, E, H, h, hs, hn, hf => by
    have hsh := hs id (List.mem_cons_self ..)
    have ho := h2.obj id
    obtain ⟨l, hl, hmut, hblk⟩ : ∃ l, E' id = some l ∧ (H'.get id).mut = true ∧ B0 ≤ l.blk := by
      obtain ⟨cs, e, hcs, hc⟩ := hsh
      rcases hcs with hcs | hcs
      · rw [hcs] at ho ⊢
        obtain ⟨l', c', k1, k2, k3, _⟩ := ho
        exact ⟨l', k1, rfl, k3⟩
      · rw [hcs] at ho ⊢
        obtain ⟨l', c', k1, k2, k3, _⟩ := ho
        exact ⟨l', k1, rfl, k3⟩
    have hfr : ∀ j lj, E j = some lj → (H.get j).mut = true → lj.blk ≠ l.blk := by
      intro j lj hj mj e
      rcases hf j lj hj mj with hlt | ⟨id2, hne, h3, h4⟩
      · omega
      · have := h2.inj id2 id lj l h3 hl h4 hmut e
        subst this
        exact hne (List.mem_cons_self ..)
    have hnew := h.addNew (o := H'.get id) (l := l) (hsh.or ho hl (by simp [Env.add]) hB) hfr
    have hnd := List.nodup_cons.1 hn
    obtain ⟨E2, g1, g2, g3⟩ := addNews h2 hB ids (E.add H.next l) (H.push (H'.get id)) hnew (fun x hx => hs x (List.mem_cons_of_mem _ hx)) hnd.2 (by
      intro j lj hj mj
      by_cases e : j = H.next
      · subst e
        simp only [Env.add, if_true, Option.some.injEq] at hj
        subst hj
        exact .inr ⟨id, hnd.1, hl, hmut⟩
      · rw [Heap.get_push, if_neg (fun x => e x.symm)] at mj
        simp only [Env.add, if_neg e] at hj
        rcases hf j lj hj mj with hlt | ⟨id2, hne, h3, h4⟩
        · exact .inl hlt
        · exact .inr ⟨id2, fun hx => hne (List.mem_cons_of_mem _ hx), h3, h4⟩)
    refine ⟨E2, (Env.le_add h.newId).trans g1, g2, fun k x hk => ?_⟩
    cases k with
    | zero =>
      simp only [List.getElem?_cons_zero, Option.some.injEq] at hk
      subst hk
      rw [hl]
      exact g1 _ _ (by simp [Env.add])
    | succ k =>
      have := g3 k x (by simpa using hk)
      rw [← this]
      congr 1
      show H.next + (k + 1) = H.next + 1 + k
      omega
theorem rv_news {E' E2 : Env} {b : Nat} {ids : List Nat} (h3 : ∀ k id, ids[k]? = some id → E2 (b + k) = E' id) {u v v' : Value} (hv : VRel E' u v') (hr : ∀ σ : Nat → Option Nat, (∀ k id, ids[k]? = some id → σ (b + k) = some id) → RV σ u v) : VRel E2 v v' := by
  have h1 := hr (fun j => if b ≤ j then ids[j - b]? else none) (fun k id hk => by
    show (if b ≤ b + k then ids[b + k - b]? else none) = _
    rw [if_pos (by omega), Nat.add_sub_cancel_left]; exact hk) E' v' hv
  refine h1.mono fun j l hj => ?_
  simp only [ren] at hj
  by_cases hb : b ≤ j
  · rw [if_pos hb] at hj
    cases hi : ids[j - b]? with
    | none => rw [hi] at hj; cases hj
    | some id =>
      rw [hi] at hj
      have := h3 _ _ hi
      rw [show b + (j - b) = j by omega] at this
      rw [this]; exact hj
  · rw [if_neg hb] at hj; cases hj
theorem news_of_awp {P : Program} {f : FuncId} {fn : Func} {c : Code} (hf : P.funcs[f]? = some fn) (hb : fn.body = some c) {args : List Value} {H : Heap} {obs : List AObj} {v : Value} (hs : ∀ ob ∈ obs, Shut ob)
    (h : Awp P c (fun ex T' H' D' => (ex = .normal ∨ ex = .ret) ∧ (D'.all fun d => quietDefer P d.1 && callable P d.1) = true ∧ ∃ u, resA P fn T' H' = some u ∧ (∃ ids : List Nat, ids.Nodup ∧ (∀ id ∈ ids, H.next ≤ id) ∧ ids.map H'.get = obs ∧ ∀ σ : Nat → Option Nat, (∀ k id, ids[k]? = some id → σ (H.next + k) = some id) → RV σ u v) ∧ Keep H H') (args ++ List.replicate (fn.ntmps - args.length) undef) H []) :
    Does P f args H v (pushAll H obs) := by
  intro B E w args' hH hA
  refine (awp_weak (R := fun u H' => (∃ ids : List Nat, ids.Nodup ∧ (∀ id ∈ ids, H.next ≤ id) ∧ ids.map H'.get = obs ∧ ∀ σ : Nat → Option Nat, (∀ k id, ids[k]? = some id → σ (H.next + k) = some id) → RV σ u v) ∧ Keep H H') hf hb h B E w args' hH hA).mono ?_
  rintro en w' ⟨E', u, v', H', ⟨⟨ids, hn, hlo, hob, hr⟩, hk⟩, h1, h2, h3, h4, h5⟩
  have hback := hH.back h1 h2 hk
  obtain ⟨E2, g1, g2, g3⟩ := addNews h2 (Nat.le_refl B) ids E H hback (fun id hid => hs _ (by rw [← hob]; exact List.mem_map_of_mem hid)) hn (fun j lj hj mj => .inr ⟨j, fun hm => by
    have := hlo j hm
    have := hH.dom _ _ hj
    omega, h1 _ _ hj, by rw [hk.get j (hH.dom _ _ hj)]; exact mj⟩)
  rw [hob] at g2
  exact ⟨E2, v', g1, g2, rv_news g3 h3 hr, h4, h5⟩
theorem frame_news {P : Program} {f : FuncId} {args args0 : List Value} {H H0 : Heap} {obs : List AObj} {v0 v : Value} (h : Does P f args0 H0 v0 (pushAll H0 obs)) (hs : ∀ ob ∈ obs, Shut ob) (hi : Imp P args H args0 H0)
    (hr : ∀ σ : Nat → Option Nat, (∀ k, k < obs.length → σ (H.next + k) = some (H0.next + k)) → RV σ v0 v) : Does P f args H v (pushAll H obs) := by
  intro B E w args' hH hA
  obtain ⟨E0, h0, ha0⟩ := hi B E w args' hH hA
  refine (h w.heap.size E0 w args' h0 ha0).mono ?_
  rintro en w' ⟨E', v', h1, h2, h3, h4, h5⟩
  have hkept := hH.kept h4
  have hget : ∀ k, k < obs.length → (pushAll H0 obs).get (H0.next + k) = obs.getD k .dead := fun k hk => by
    rw [pushAll_get, if_pos ⟨by omega, by omega⟩, Nat.add_sub_cancel_left]
  have hmap : (List.range' H0.next obs.length).map (pushAll H0 obs).get = obs := by
    apply List.ext_getElem (by simp)
    intro k k1 k2
    rw [List.getElem_map, List.getElem_range', Nat.one_mul, hget k k2, List.getD_eq_getElem?_getD, List.getElem?_eq_getElem k2]
    rfl
  obtain ⟨E2, g1, g2, g3⟩ := addNews (B := B) h2 hH.base (List.range' H0.next obs.length) E H hkept (fun id hid => hs _ (by have hq := List.mem_map_of_mem (f := (pushAll H0 obs).get) hid; rw [hmap] at hq; exact hq)) List.nodup_range' (fun j lj hj mj => by
    obtain ⟨l2, q1, _, q3⟩ := (hH.obj j).lt mj
    rw [hj] at q1; cases q1
    exact .inl q3)
  rw [hmap] at g2
  refine ⟨E2, v', g1, g2, rv_news g3 h3 fun σ hσ => hr σ fun k hk => hσ k _ ?_, h4.mono hH.base, h5⟩
  rw [List.getElem?_range' hk, Nat.one_mul]

end Go.Abs

namespace Go.Abs
open Go.RowKit (Below)
/-- append of nothing. -/
def appQn (P : Program) (d : Nat) : OpO := fun o ρ _ => match o.dst with
  | some d' => bif Nat.beq d' d then (match o.op with
    | .call c => match c.callee with
      | .builtin .append => match c.argTypes.toList, c.args.toList with
        | [sT, xT], [s, x] => match P.underlying sT, P.underlying xT, ρ s, ρ x with
          | some (.slice e), some (.slice _), .slice (some ⟨id1, off1, none⟩) n1 c1, .slice none 0 0 => match sizeT P e, bytesT P e, zeroT P e with
            | some (k + 1), some _, some z => some (.pure (.slice (some ⟨id1, off1, none⟩) n1 c1) (z.cells.size = k + 1))
            | _, _, _ => none
          | _, _, _, _ => none
        | _, _ => none
      | _ => none
    | _ => none) else none
  | none => none

theorem appQn_sound {P : Program} {d : Nat} : SoundO P (appQn P d) := by
  have key : ∀ o ρ H r, appQn P d o ρ H = some r → ∃ v c, r = .pure v c ∧ (c → SPure P o ρ v) := by
    intro o ρ H r h
    unfold appQn at h
    split at h
    case h_2 => cases h
    obtain ⟨_, h⟩ := cond_opt h
    split at h
    case h_2 => cases h
    rename_i c ho
    split at h
    case h_2 => cases h
    rename_i hcal
    split at h
    case h_2 => cases h
    rename_i sT xT s x hat hargs
    split at h
    case h_2 => cases h
    rename_i e _ id1 off1 n1 c1 hu hux hs hx
    split at h
    case h_2 => cases h
    rename_i k by_ z hsz hby hz
    cases h
    refine ⟨_, _, rfl, fun hzs H2 => ?_⟩
    refine .of_run ?_
    intro B E a w hH hr
    have b0 : Nat.beq z.cells.size (k + 1) = true := by rw [hzs]; exact Nat.beq_refl _
    have hsrc : srcA H2 (k + 1) (.slice none 0 0) = some (0, []) := by simp only [srcA]
    have happ : appB H2 e k by_ 0 [] (.slice (some ⟨id1, off1, none⟩) n1 c1) = some (.slice (some ⟨id1, off1, none⟩) n1 c1, H2) := by
      simp only [appB, Nat.beq_refl, cond_true]
    have hev : evW P ρ H2 o = some (.slice (some ⟨id1, off1, none⟩) n1 c1, H2) := by
      obtain ⟨dst', op, type, pos, after, guard⟩ := o
      obtain ⟨callee, args, argTypes⟩ := c
      simp only at ho hcal hat hargs
      subst ho hcal
      have ha : args = #[s, x] := by rw [← Array.toArray_toList (xs := args), hargs]
      have hb : argTypes = #[sT, xT] := by rw [← Array.toArray_toList (xs := argTypes), hat]
      subst ha hb
      simp only [evW, evE, appA, hu, hux, hsz, hby, hz, hs, hx, hsrc, b0, strOk, Bool.and_self, cond_true, happ]
    have hrs := hr s (by
      have ha : c.args = #[s, x] := by rw [← Array.toArray_toList (xs := c.args), hargs]
      simp [ho, Op.operands, Call.operands, ha])
    have hrx := hr x (by
      have ha : c.args = #[s, x] := by rw [← Array.toArray_toList (xs := c.args), hargs]
      simp [ho, Op.operands, Call.operands, ha])
    rw [hs] at hrs
    rw [hx] at hrx
    generalize hus : a.eval s = us at hrs
    generalize hux' : a.eval x = ux at hrx
    cases hrs with
    | slice _ _ _ _ ls hls hns =>
    -- in a heap without objects
    have hH0 : HRel P w.heap.size E ⟨H2.next, []⟩ w := ⟨Nat.le_refl _, hH.dom, fun _ => trivial, fun i j li lj hi hj mi => by cases mi⟩
    have hev0 : evW P ρ ⟨H2.next, []⟩ o = some (.slice (some ⟨id1, off1, none⟩) n1 c1, ⟨H2.next, []⟩) := by
      have hsrc : srcA ⟨H2.next, []⟩ (k + 1) (.slice none 0 0) = some (0, []) := by simp only [srcA]
      have happ : appB ⟨H2.next, []⟩ e k by_ 0 [] (.slice (some ⟨id1, off1, none⟩) n1 c1) = some (.slice (some ⟨id1, off1, none⟩) n1 c1, ⟨H2.next, []⟩) := by
        simp only [appB, Nat.beq_refl, cond_true]
      obtain ⟨dst', op, type, pos, after, guard⟩ := o
      obtain ⟨callee, args, argTypes⟩ := c
      simp only at ho hcal hat hargs
      subst ho hcal
      have ha : args = #[s, x] := by rw [← Array.toArray_toList (xs := args), hargs]
      have hb : argTypes = #[sT, xT] := by rw [← Array.toArray_toList (xs := argTypes), hat]
      subst ha hb
      simp only [evW, evE, appA, hu, hux, hsz, hby, hz, hs, hx, hsrc, b0, strOk, Bool.and_self, cond_true, happ]
    obtain ⟨E', nx, w', h1, h2, h3, h4, h5⟩ := evW_sound hev0 hH0 hr
    rcases h2 with ⟨v', rfl, hvv⟩ | ⟨_, hu⟩
    case inr => cases hu
    refine ⟨v', w', h1, ?_, h5⟩
    have hv0 : VRel E (.slice (some ⟨id1, off1, none⟩) n1 c1) (.slice (some ⟨ls.blk, ls.off + off1, none⟩) n1 (relC ls c1)) := .slice id1 off1 n1 c1 ls hls hns
    exact vrel_back h3 hv0 hvv
  refine ⟨fun o ρ H v ob c h => ?_, fun o ρ H v c h => ?_, fun o ρ H v c h => ?_, fun o ρ H v c h => ?_, fun o ρ H v H' c h => ?_⟩
  · obtain ⟨_, _, h, k⟩ := key _ _ _ _ h; cases h
  · obtain ⟨_, _, h, k⟩ := key _ _ _ _ h; cases h
  · obtain ⟨_, _, h, k⟩ := key _ _ _ _ h; cases h; exact k
  · obtain ⟨_, _, h, k⟩ := key _ _ _ _ h; cases h
  · obtain ⟨_, _, h, k⟩ := key _ _ _ _ h; cases h
end Go.Abs

namespace Go.Abs
open Go.RowKit (Below)
/-- A function's body: the result and the heap under other names. -/
theorem does_of_awpN {P : Program} {f : FuncId} {fn : Func} {c : Code} (hf : P.funcs[f]? = some fn) (hb : fn.body = some c) {args : List Value} {H H' : Heap} {v : Value} {X : Nat → Value}
    (h : Awp P c (fun ex T' H'' D' => (ex = .normal ∨ ex = .ret) ∧ (D'.all fun d => quietDefer P d.1 && callable P d.1) = true ∧ ∃ u, resA P fn T' H'' = some u ∧ Nrm P H.next (mkT 1 [(0, u)] X) H'' [] (mkT 1 [(0, v)] X) H' []) (args ++ List.replicate (fn.ntmps - args.length) undef) H []) :
    Does P f args H v H' := by
  intro B E w args' hH hA
  refine (awp_weak (R := fun u H'' => Nrm P H.next (mkT 1 [(0, u)] X) H'' [] (mkT 1 [(0, v)] X) H' []) hf hb h B E w args' hH hA).mono ?_
  rintro en w' ⟨E', u, u', H'', hN, h1, h2, h3, h4, h5⟩
  have hs : SRel P B E' (mkT 1 [(0, u)] X) H'' [] { tmps := #[u'], defers := [] } w' := by
    refine ⟨h2, ⟨by simp [mkT], fun t => ?_⟩, .nil⟩
    cases t with
    | zero => simpa [mkT, pickT] using h3
    | succ t =>
      have e1 : (mkT 1 [(0, u)] X).getD (t + 1) undef = undef := by simp [mkT, List.getD_eq_getElem?_getD]
      have e2 : (#[u'] : Array Value).getD (t + 1) undef = undef := by simp [Array.getD]
      rw [e1, e2]; exact .undef _
  obtain ⟨E2, g1, g2⟩ := hN B E' _ w' hs
  refine ⟨E2, u', fun id l he => g1 id l (hH.dom _ _ he) (h1 _ _ he), g2.heap, ?_, h4, h5⟩
  have := g2.tmps.at_ 0
  simpa [mkT, pickT] using this
end Go.Abs

