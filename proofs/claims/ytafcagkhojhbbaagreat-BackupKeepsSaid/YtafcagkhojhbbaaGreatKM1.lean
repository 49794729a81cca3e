/- BackupKeeps of law 31: Keep and Expire of the program return the lists of the specification, for all days, numbers of days and today; no condition. -/
import Derived.Test.YtafcagkhojhbbaaGreatKZ3
import Derived.Test.YtafcagkhojhbbaaGreatKBc
set_option linter.unusedSimpArgs false
set_option linter.unusedVariables false
namespace Go.Abs
open Go.Proofs
set_option maxRecDepth 1000000
set_option maxHeartbeats 0
structure CatR (K : Int) (args : List Value) (r1 r2 r3 r4 : Option (List Value)) : Prop where
  args : args = [.agg mCat.toArray]
  r1 : r1 = some cCols
  r2 : r2 = some mTabs
  r3 : r3 = some cNms
  r4 : r4 = some (mBks K)
  lo : 1 ≤ K
  hi : K ≤ 40
def ctG (K : Int) : List Value → Heap → Option CallR := fun args H => some (.same (.bool true) (CatR K args (H.row 1) (H.row 2) (H.row 3) (H.row 4)))
theorem ct40 (K : Int) : SoundC Tryz.prog (oneC 40 (ctG K)) := oneC_sound fun args H r h => by
  cases h
  exact fun hc => (cat40 K).same 40 args H _ _ rfl ⟨hc.args, hc.r1, hc.r2, hc.r3, hc.r4, hc.lo, hc.hi⟩
theorem ct42 (K : Int) : SoundC Tryz.prog (oneC 42 (ctG K)) := oneC_sound fun args H r h => by
  cases h
  exact fun hc => (cat42 K).same 42 args H _ _ rfl ⟨hc.args, hc.r1, hc.r2, hc.r3, hc.r4, hc.lo, hc.hi⟩
abbrev CC (K : Int) : Prop := CatR K [.agg mCat.toArray] (some cCols) (some mTabs) (some cNms) (some (mBks K))
theorem cc_ok {K : Int} (h1 : 1 ≤ K) (h2 : K ≤ 40) : CC K := ⟨rfl, rfl, rfl, rfl, rfl, h1, h2⟩
noncomputable def cR : CallF := runF Tryz.prog noO 300
noncomputable def b5 (b : Bool) (K : Int) : OpO := orO (forceO Tryz.prog 31 (.bool b)) (callO Tryz.prog (inC Tryz.prog cR (callO Tryz.prog (oneC 40 (ctG K))) 60 [15]))
noncomputable def b6 (b : Bool) (K : Int) : OpO := orO (forceO Tryz.prog 29 (.bool b)) (orO (bldF Tryz.prog 32) (orO (appF Tryz.prog 34) (orO (appQn Tryz.prog 34) (orO (bldF Tryz.prog 36) (callO Tryz.prog (inC Tryz.prog cR (callO Tryz.prog (oneC 42 (ctG K))) 60 [17]))))))
noncomputable def ooR (d : Int) (b : Bool) (K : Int) : OpO := orO (idxO Tryz.prog 46) (orO (ldO Tryz.prog 47 (i64 d)) (orO (callO Tryz.prog (inC Tryz.prog cR (b5 b K) 300 [5])) (callO Tryz.prog (inC Tryz.prog cR (b6 b K) 300 [6]))))
def kK (k : Int) : Int := IntKind.i64.wrap (1 + IntKind.i64.wrap ((IntKind.u64.wrap k).tmod 40))
noncomputable def oo0 (b : Bool) : OpO := orO (forceO Tryz.prog 23 (.bool b)) (remO Tryz.prog 32)
def catH (K : Int) : List (Nat × AObj) := [(1, .cells cCols 25), (2, .cells mTabs 28), (3, .cells cNms 9), (4, .cells (mBks K) 33), (5, .cells mCat 42)]
abbrev anonV : Value := .slice (some ⟨0, 0, some 0⟩) 0 0
abbrev slc (i off n c : Nat) : Value := .slice (some ⟨i, off, none⟩) n c
structure Sn where
  d : Int
  q : Int
def Sn.a (s : Sn) : List Value := [i64 s.d, i64 s.q, nilS, anonV]
def Sn.b (s : Sn) : List Value := [i64 s.d, i64 s.q, nilS, nilS]
abbrev jX' : Nat → Value := fun _ => jk
abbrev T3 (n : Nat) (k t : Int) (a b : Value) (i : Int) : List Value := mkT 132 [(0, slc 0 0 n capG), (1, i64 k), (2, i64 t), (7, pt 5), (8, a), (9, b), (10, i64 i)] jX'
abbrev H3 (ds : AObj) (K : Int) (n : Nat) (l : List (Nat × AObj)) : Heap := mkH n ((0, ds) :: (catH K ++ l)) []
theorem cR_sound : ∀ f args H v h, cR f args H = some (v, h) → Does Tryz.prog f args H v (h.getD H) := fun _ _ _ _ _ h => runF_sound hm noO_sound h
theorem b5_sound (b : Bool) (K : Int) : SoundO Tryz.prog (b5 b K) := orO_sound forceO_sound (callO_sound (inC_sound hm cR_sound (callO_sound (ct40 K))))
theorem b6_sound (b : Bool) (K : Int) : SoundO Tryz.prog (b6 b K) := orO_sound forceO_sound (orO_sound bldF_sound (orO_sound appF_sound (orO_sound appQn_sound (orO_sound bldF_sound (callO_sound (inC_sound hm cR_sound (callO_sound (ct42 K))))))))
theorem ooR_sound (d : Int) (b : Bool) (K : Int) : SoundO Tryz.prog (ooR d b K) := orO_sound idxO_sound (orO_sound ldO_sound (orO_sound (callO_sound (inC_sound hm cR_sound (b5_sound b K))) (callO_sound (inC_sound hm cR_sound (b6_sound b K)))))
theorem oo0_sound (b : Bool) : SoundO Tryz.prog (oo0 b) := orO_sound forceO_sound remO_sound
end Go.Abs

