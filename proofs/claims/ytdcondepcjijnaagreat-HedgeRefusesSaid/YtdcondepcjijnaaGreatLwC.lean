/-
  lecternlaw18.HedgeRefuses ANSWERS TRUE AT EVERY KEY, EVERY VALUE AND EVERY NUMBER, AND LEAVES BOTH SLICES AS THEY WERE. Conditions: none beyond the given statement's own.
  How: the evaluator's runs (LwA, LwB) at each kind of key (nil, empty, of 1 to 128 bytes, longer), of value (of up to 96 bytes, of up to 70000, longer; in the key's block or in another one) and of number (below 1, 1, above 1). (The frame began as the print of the seat's proof-skeleton.)
-/
import Derived.Test.YtdcondepcjijnaaGreatRows
import Derived.WalkKit
import Derived.ProofKit
import Derived.OpenShut
import Derived.ShutString
import Derived.ChangeOld
import Derived.Below
import Derived.Test.YtdcondepcjijnaaGreatLwB
import Derived.SizedLaws
namespace Go.Proofs.YtdcondepcjijnaaGreat.hedgeRefuses
open Go.ChangeShapes Go.WideShapes Go.ChangeAt Go.RowKit
open Go.ChangeMaps (open_string shut_string)
open Go.Ev (AV Heap V T AObj tO relL Inv law_run pathN)
set_option linter.unusedVariables false
set_option maxRecDepth 100000

theorem own : ownKnob Tryz.prog.godebug = none := by kernel_rfl
theorem laidOut : laidOutB Tryz.prog = true := by kernel_rfl

/-- WHAT THE WALK IS TOLD OF A SLICE OF INTEGERS THAT CAME IN: it is nil; or it leads to a row of 'cap' cells, the numbers 'zs' (the first 'len' are its elements, the rest its spare room), each fitting its kind. -/
def IsRow (k : IntKind) (w : World) (a : Option Addr) (len cap : Nat) (zs : List Int) : Prop :=
  (a = none ∧ len = 0 ∧ cap = 0 ∧ zs = []) ∨
  ∃ x, a = some x ∧ len ≤ cap ∧ cap ≤ maxLen ∧ zs.length = cap ∧ (∀ i, i < zs.length → w.cell? (x.add i) = some (.int k (zs.getD i 0))) ∧ ∀ n ∈ zs, (Lit.int k n).wf = true


/-! The three kinds of number -/
theorem num (a : Int) (h : (Lit.int .i64 a).wf = true) (ν : V) (n : Nat) : (AV.rng .i64 (-9223372036854775808) 0).rel ν n (.int .i64 a) ∨ (AV.int .i64 1).rel ν n (.int .i64 a) ∨ (AV.rng .i64 2 9223372036854775807).rel ν n (.int .i64 a) := by
  have hb : -9223372036854775808 ≤ a ∧ a ≤ 9223372036854775807 := by simpa [Lit.wf, IntKind.min, IntKind.max, IntKind.signed, IntKind.bits] using h
  by_cases h1 : a ≤ 0
  · exact .inl ⟨a, rfl, hb.1, h1⟩
  · by_cases h2 : a = 1
    · subst h2; exact .inr (.inl rfl)
    · exact .inr (.inr ⟨a, rfl, by omega, hb.2⟩)

theorem obj1 (S i : Nat) : (⟨S, tO [(0, .fixed)]⟩ : Heap).obj i = if i = 0 then .fixed else .dead := by
  show Go.Ev.orDead ((T.put .e (pathN 0) AObj.fixed).get (pathN i)) = _
  rw [Go.Ev.T.get_put]
  by_cases h : i = 0
  · subst h; simp [Go.Ev.orDead]
  · have : pathN 0 ≠ pathN i := fun q => h (Go.Ev.pathN_inj q).symm
    simp [this, h, Go.Ev.T.get_e, Go.Ev.orDead]
theorem obj2 (S i : Nat) : (⟨S, tO [(0, .fixed), (1, .fixed)]⟩ : Heap).obj i = if i = 0 ∨ i = 1 then .fixed else .dead := by
  show Go.Ev.orDead ((T.put (T.put .e (pathN 1) AObj.fixed) (pathN 0) AObj.fixed).get (pathN i)) = _
  rw [Go.Ev.T.get_put, Go.Ev.T.get_put]
  by_cases h : i = 0
  · subst h; simp [Go.Ev.orDead]
  · have h0 : pathN 0 ≠ pathN i := fun q => h (Go.Ev.pathN_inj q).symm
    by_cases h1 : i = 1
    · subst h1; simp [h0, Go.Ev.orDead]
    · have : pathN 1 ≠ pathN i := fun q => h1 (Go.Ev.pathN_inj q).symm
      simp [h0, this, h, h1, Go.Ev.T.get_e, Go.Ev.orDead]
theorem fix0 (S : Nat) (i : Nat) (h : (⟨S, .e⟩ : Heap).obj i ≠ .dead) : (⟨S, .e⟩ : Heap).obj i = .fixed := absurd rfl h
theorem fix1 (S : Nat) (i : Nat) (h : (⟨S, tO [(0, .fixed)]⟩ : Heap).obj i ≠ .dead) : (⟨S, tO [(0, .fixed)]⟩ : Heap).obj i = .fixed := by
  rw [obj1] at h ⊢
  split
  · rfl
  · rename_i q; rw [if_neg q] at h; exact absurd rfl h
theorem fix2 (S : Nat) (i : Nat) (h : (⟨S, tO [(0, .fixed), (1, .fixed)]⟩ : Heap).obj i ≠ .dead) : (⟨S, tO [(0, .fixed), (1, .fixed)]⟩ : Heap).obj i = .fixed := by
  rw [obj2] at h ⊢
  split
  · rfl
  · rename_i q; rw [if_neg q] at h; exact absurd rfl h

/-- The blocks of the arguments. -/
def W2 (b0 b1 : Nat) (o0 o1 : Obj) (n : Nat) (c : Nat) : V := ⟨fun _ => True, fun i => if i = 0 then b0 else b1, fun _ => c, fun _ => c, fun i => if i = 0 then o0 else o1, fun _ => n⟩
theorem inv0 (S : Nat) (ν : V) (w : World) : Inv Tryz.prog ν ⟨S, .e⟩ w := ⟨fun i hi => absurd rfl hi, fun i hi => absurd rfl hi, fun i hi => absurd rfl hi, fun i j hi => absurd rfl hi⟩
theorem inv1 (S : Nat) (hS : 0 < S) {b0 b1 : Nat} {o0 o1 : Obj} {n c : Nat} {w : World} (h0 : w.heap[b0]? = some o0) : Inv Tryz.prog (W2 b0 b1 o0 o1 n c) ⟨S, tO [(0, .fixed)]⟩ w := by
  have key : ∀ i, (⟨S, tO [(0, .fixed)]⟩ : Heap).obj i ≠ .dead → i = 0 := fun i hi => by
    rw [obj1] at hi
    by_cases q : i = 0
    · exact q
    · rw [if_neg q] at hi; exact absurd rfl hi
  refine ⟨fun i hi => by cases key i hi; exact hS, fun i hi => trivial, fun i hi => ?_, fun i j hi hj _ => by rw [key i hi, key j hj]⟩
  cases key i hi
  exact ⟨o0, h0, by rw [obj1]; rfl⟩
theorem inv2 (S : Nat) (hS : 1 < S) {b0 b1 : Nat} {o0 o1 : Obj} {n c : Nat} {w : World} (hb : b0 ≠ b1) (h0 : w.heap[b0]? = some o0) (h1 : w.heap[b1]? = some o1) : Inv Tryz.prog (W2 b0 b1 o0 o1 n c) ⟨S, tO [(0, .fixed), (1, .fixed)]⟩ w := by
  have key : ∀ i, (⟨S, tO [(0, .fixed), (1, .fixed)]⟩ : Heap).obj i ≠ .dead → i = 0 ∨ i = 1 := fun i hi => by
    rw [obj2] at hi
    by_cases q : i = 0 ∨ i = 1
    · exact q
    · rw [if_neg q] at hi; exact absurd rfl hi
  refine ⟨fun i hi => ?_, fun i hi => trivial, fun i hi => ?_, fun i j hi hj e => ?_⟩
  · rcases key i hi with rfl | rfl
    · show 0 < S; omega
    · exact hS
  · rcases key i hi with rfl | rfl
    · exact ⟨o0, h0, by rw [obj2]; rfl⟩
    · exact ⟨o1, h1, by rw [obj2]; rfl⟩
  · rcases key i hi with rfl | rfl <;> rcases key j hj with rfl | rfl
    · rfl
    · exact absurd e hb
    · exact absurd e.symm hb
    · rfl

theorem enters (vs : List Value) (w : World) : (callFunc 3 vs.toArray).run Tryz.prog w = .ok (.enter 3 vs.toArray) w := Go.Proofs.callFunc_body Tryz.func3 (by kernel_rfl) rfl

set_option maxRecDepth 100000 in
theorem caseA {ν : V} {w : World} (I : Inv Tryz.prog ν ⟨993, .e⟩ w) {k v : Value} {a : Int} (rk : (AV.rel ν 993 (.slice none 0 0 true) k)) (rv : AV.rel ν 993 (.any) v) (ha : (Lit.int .i64 a).wf = true) :
    Calls Tryz.prog 3 #[k, v, .int .i64 a] w fun e w' => e = .returned (.bool true) ∧ Below w.heap.size w w' := by
  rcases num a ha ν 993 with r | r | r
  · exact law_run (Go.Ev.evalM_sound hookM_sound 100000) RAl (fun i hi => fix0 993 i hi) (vs := [k, v, .int .i64 a]) I ⟨k, _, rfl, rk, v, _, rfl, rv, _, _, rfl, r, rfl⟩ (enters _ w)
  · exact law_run (Go.Ev.evalM_sound hookM_sound 100000) RAm (fun i hi => fix0 993 i hi) (vs := [k, v, .int .i64 a]) I ⟨k, _, rfl, rk, v, _, rfl, rv, _, _, rfl, r, rfl⟩ (enters _ w)
  · exact law_run (Go.Ev.evalM_sound hookM_sound 100000) RAh (fun i hi => fix0 993 i hi) (vs := [k, v, .int .i64 a]) I ⟨k, _, rfl, rk, v, _, rfl, rv, _, _, rfl, r, rfl⟩ (enters _ w)

set_option maxRecDepth 100000 in
theorem caseB {ν : V} {w : World} (I : Inv Tryz.prog ν ⟨992, .e⟩ w) {k v : Value} {a : Int} (rk : (AV.rel ν 992 (.sliceU 0 0 0) k)) (rv : AV.rel ν 992 (.any) v) (ha : (Lit.int .i64 a).wf = true) :
    Calls Tryz.prog 3 #[k, v, .int .i64 a] w fun e w' => e = .returned (.bool true) ∧ Below w.heap.size w w' := by
  rcases num a ha ν 992 with r | r | r
  · exact law_run (Go.Ev.evalM_sound hookM_sound 100000) RBl (fun i hi => fix0 992 i hi) (vs := [k, v, .int .i64 a]) I ⟨k, _, rfl, rk, v, _, rfl, rv, _, _, rfl, r, rfl⟩ (enters _ w)
  · exact law_run (Go.Ev.evalM_sound hookM_sound 100000) RBm (fun i hi => fix0 992 i hi) (vs := [k, v, .int .i64 a]) I ⟨k, _, rfl, rk, v, _, rfl, rv, _, _, rfl, r, rfl⟩ (enters _ w)
  · exact law_run (Go.Ev.evalM_sound hookM_sound 100000) RBh (fun i hi => fix0 992 i hi) (vs := [k, v, .int .i64 a]) I ⟨k, _, rfl, rk, v, _, rfl, rv, _, _, rfl, r, rfl⟩ (enters _ w)

set_option maxRecDepth 100000 in
theorem caseC {ν : V} {w : World} (I : Inv Tryz.prog ν ⟨991, (tO [(0, .fixed)])⟩ w) {k v : Value} {a : Int} (rk : (AV.rel ν 991 (.sliceT 0 129 140737488351232) k)) (rv : AV.rel ν 991 (.any) v) (ha : (Lit.int .i64 a).wf = true) :
    Calls Tryz.prog 3 #[k, v, .int .i64 a] w fun e w' => e = .returned (.bool true) ∧ Below w.heap.size w w' := by
  rcases num a ha ν 991 with r | r | r
  · exact law_run (Go.Ev.evalM_sound hookM_sound 100000) RCl (fun i hi => fix1 991 i hi) (vs := [k, v, .int .i64 a]) I ⟨k, _, rfl, rk, v, _, rfl, rv, _, _, rfl, r, rfl⟩ (enters _ w)
  · exact law_run (Go.Ev.evalM_sound hookM_sound 100000) RCm (fun i hi => fix1 991 i hi) (vs := [k, v, .int .i64 a]) I ⟨k, _, rfl, rk, v, _, rfl, rv, _, _, rfl, r, rfl⟩ (enters _ w)
  · exact law_run (Go.Ev.evalM_sound hookM_sound 100000) RCh (fun i hi => fix1 991 i hi) (vs := [k, v, .int .i64 a]) I ⟨k, _, rfl, rk, v, _, rfl, rv, _, _, rfl, r, rfl⟩ (enters _ w)

set_option maxRecDepth 100000 in
theorem caseD1 {ν : V} {w : World} (I : Inv Tryz.prog ν ⟨991, (tO [(0, .fixed)])⟩ w) {k v : Value} {a : Int} (rk : (AV.rel ν 991 (.sliceT 0 1 128) k)) (rv : AV.rel ν 991 (.sliceF 0 0 96) v) (ha : (Lit.int .i64 a).wf = true) :
    Calls Tryz.prog 3 #[k, v, .int .i64 a] w fun e w' => e = .returned (.bool true) ∧ Below w.heap.size w w' := by
  rcases num a ha ν 991 with r | r | r
  · exact law_run (Go.Ev.evalM_sound hookM_sound 100000) RD1l (fun i hi => fix1 991 i hi) (vs := [k, v, .int .i64 a]) I ⟨k, _, rfl, rk, v, _, rfl, rv, _, _, rfl, r, rfl⟩ (enters _ w)
  · exact law_run (Go.Ev.evalM_sound hookM_sound 100000) RD1m (fun i hi => fix1 991 i hi) (vs := [k, v, .int .i64 a]) I ⟨k, _, rfl, rk, v, _, rfl, rv, _, _, rfl, r, rfl⟩ (enters _ w)
  · exact law_run (Go.Ev.evalM_sound hookM_sound 100000) RD1h (fun i hi => fix1 991 i hi) (vs := [k, v, .int .i64 a]) I ⟨k, _, rfl, rk, v, _, rfl, rv, _, _, rfl, r, rfl⟩ (enters _ w)

set_option maxRecDepth 100000 in
theorem caseD2 {ν : V} {w : World} (I : Inv Tryz.prog ν ⟨991, (tO [(0, .fixed)])⟩ w) {k v : Value} {a : Int} (rk : (AV.rel ν 991 (.sliceT 0 1 128) k)) (rv : AV.rel ν 991 (.sliceF 0 97 70000) v) (ha : (Lit.int .i64 a).wf = true) :
    Calls Tryz.prog 3 #[k, v, .int .i64 a] w fun e w' => e = .returned (.bool true) ∧ Below w.heap.size w w' := by
  rcases num a ha ν 991 with r | r | r
  · exact law_run (Go.Ev.evalM_sound hookM_sound 100000) RD2l (fun i hi => fix1 991 i hi) (vs := [k, v, .int .i64 a]) I ⟨k, _, rfl, rk, v, _, rfl, rv, _, _, rfl, r, rfl⟩ (enters _ w)
  · exact law_run (Go.Ev.evalM_sound hookM_sound 100000) RD2m (fun i hi => fix1 991 i hi) (vs := [k, v, .int .i64 a]) I ⟨k, _, rfl, rk, v, _, rfl, rv, _, _, rfl, r, rfl⟩ (enters _ w)
  · exact law_run (Go.Ev.evalM_sound hookM_sound 100000) RD2h (fun i hi => fix1 991 i hi) (vs := [k, v, .int .i64 a]) I ⟨k, _, rfl, rk, v, _, rfl, rv, _, _, rfl, r, rfl⟩ (enters _ w)

set_option maxRecDepth 100000 in
theorem caseD3 {ν : V} {w : World} (I : Inv Tryz.prog ν ⟨991, (tO [(0, .fixed)])⟩ w) {k v : Value} {a : Int} (rk : (AV.rel ν 991 (.sliceT 0 1 128) k)) (rv : AV.rel ν 991 (.sliceF 0 70001 140737488351232) v) (ha : (Lit.int .i64 a).wf = true) :
    Calls Tryz.prog 3 #[k, v, .int .i64 a] w fun e w' => e = .returned (.bool true) ∧ Below w.heap.size w w' := by
  rcases num a ha ν 991 with r | r | r
  · exact law_run (Go.Ev.evalM_sound hookM_sound 100000) RD3l (fun i hi => fix1 991 i hi) (vs := [k, v, .int .i64 a]) I ⟨k, _, rfl, rk, v, _, rfl, rv, _, _, rfl, r, rfl⟩ (enters _ w)
  · exact law_run (Go.Ev.evalM_sound hookM_sound 100000) RD3m (fun i hi => fix1 991 i hi) (vs := [k, v, .int .i64 a]) I ⟨k, _, rfl, rk, v, _, rfl, rv, _, _, rfl, r, rfl⟩ (enters _ w)
  · exact law_run (Go.Ev.evalM_sound hookM_sound 100000) RD3h (fun i hi => fix1 991 i hi) (vs := [k, v, .int .i64 a]) I ⟨k, _, rfl, rk, v, _, rfl, rv, _, _, rfl, r, rfl⟩ (enters _ w)

set_option maxRecDepth 100000 in
theorem caseE1 {ν : V} {w : World} (I : Inv Tryz.prog ν ⟨991, (tO [(0, .fixed), (1, .fixed)])⟩ w) {k v : Value} {a : Int} (rk : (AV.rel ν 991 (.sliceT 0 1 128) k)) (rv : AV.rel ν 991 (.sliceF 1 0 96) v) (ha : (Lit.int .i64 a).wf = true) :
    Calls Tryz.prog 3 #[k, v, .int .i64 a] w fun e w' => e = .returned (.bool true) ∧ Below w.heap.size w w' := by
  rcases num a ha ν 991 with r | r | r
  · exact law_run (Go.Ev.evalM_sound hookM_sound 100000) RE1l (fun i hi => fix2 991 i hi) (vs := [k, v, .int .i64 a]) I ⟨k, _, rfl, rk, v, _, rfl, rv, _, _, rfl, r, rfl⟩ (enters _ w)
  · exact law_run (Go.Ev.evalM_sound hookM_sound 100000) RE1m (fun i hi => fix2 991 i hi) (vs := [k, v, .int .i64 a]) I ⟨k, _, rfl, rk, v, _, rfl, rv, _, _, rfl, r, rfl⟩ (enters _ w)
  · exact law_run (Go.Ev.evalM_sound hookM_sound 100000) RE1h (fun i hi => fix2 991 i hi) (vs := [k, v, .int .i64 a]) I ⟨k, _, rfl, rk, v, _, rfl, rv, _, _, rfl, r, rfl⟩ (enters _ w)

set_option maxRecDepth 100000 in
theorem caseE2 {ν : V} {w : World} (I : Inv Tryz.prog ν ⟨991, (tO [(0, .fixed), (1, .fixed)])⟩ w) {k v : Value} {a : Int} (rk : (AV.rel ν 991 (.sliceT 0 1 128) k)) (rv : AV.rel ν 991 (.sliceF 1 97 70000) v) (ha : (Lit.int .i64 a).wf = true) :
    Calls Tryz.prog 3 #[k, v, .int .i64 a] w fun e w' => e = .returned (.bool true) ∧ Below w.heap.size w w' := by
  rcases num a ha ν 991 with r | r | r
  · exact law_run (Go.Ev.evalM_sound hookM_sound 100000) RE2l (fun i hi => fix2 991 i hi) (vs := [k, v, .int .i64 a]) I ⟨k, _, rfl, rk, v, _, rfl, rv, _, _, rfl, r, rfl⟩ (enters _ w)
  · exact law_run (Go.Ev.evalM_sound hookM_sound 100000) RE2m (fun i hi => fix2 991 i hi) (vs := [k, v, .int .i64 a]) I ⟨k, _, rfl, rk, v, _, rfl, rv, _, _, rfl, r, rfl⟩ (enters _ w)
  · exact law_run (Go.Ev.evalM_sound hookM_sound 100000) RE2h (fun i hi => fix2 991 i hi) (vs := [k, v, .int .i64 a]) I ⟨k, _, rfl, rk, v, _, rfl, rv, _, _, rfl, r, rfl⟩ (enters _ w)

set_option maxRecDepth 100000 in
theorem caseE3 {ν : V} {w : World} (I : Inv Tryz.prog ν ⟨991, (tO [(0, .fixed), (1, .fixed)])⟩ w) {k v : Value} {a : Int} (rk : (AV.rel ν 991 (.sliceT 0 1 128) k)) (rv : AV.rel ν 991 (.sliceF 1 70001 140737488351232) v) (ha : (Lit.int .i64 a).wf = true) :
    Calls Tryz.prog 3 #[k, v, .int .i64 a] w fun e w' => e = .returned (.bool true) ∧ Below w.heap.size w w' := by
  rcases num a ha ν 991 with r | r | r
  · exact law_run (Go.Ev.evalM_sound hookM_sound 100000) RE3l (fun i hi => fix2 991 i hi) (vs := [k, v, .int .i64 a]) I ⟨k, _, rfl, rk, v, _, rfl, rv, _, _, rfl, r, rfl⟩ (enters _ w)
  · exact law_run (Go.Ev.evalM_sound hookM_sound 100000) RE3m (fun i hi => fix2 991 i hi) (vs := [k, v, .int .i64 a]) I ⟨k, _, rfl, rk, v, _, rfl, rv, _, _, rfl, r, rfl⟩ (enters _ w)
  · exact law_run (Go.Ev.evalM_sound hookM_sound 100000) RE3h (fun i hi => fix2 991 i hi) (vs := [k, v, .int .i64 a]) I ⟨k, _, rfl, rk, v, _, rfl, rv, _, _, rfl, r, rfl⟩ (enters _ w)

/-- WHAT ELSE THE WALK IS TOLD: a slice that isn't nil lies in a row of cells, at a plain place. -/
def Lies (w : World) (a : Option Addr) : Prop := ∀ x, a = some x → x.spot = none ∧ ∃ cs e fz, w.heap[x.block]? = some (.cells cs e fz)

theorem bytesAt {w : World} {x : Addr} {len cap : Nat} {zs : List Int} {cs : Array Value} {e : TypeId} {fz : Nat × Nat} (hs : x.spot = none) (hb : w.heap[x.block]? = some (.cells cs e fz)) (hl : len ≤ cap) (hz : zs.length = cap)
    (hc : ∀ i, i < zs.length → w.cell? (x.add i) = some (.int .u8 (zs.getD i 0))) : ∀ j, j < len → ∃ m, cs[x.off + j]? = some (.int .u8 m) := fun j hj => by
  obtain ⟨b, o, s⟩ := x
  simp only at hs
  subst hs
  have := hc j (by omega)
  rw [Go.Ev.addr_add] at this
  simp only [World.cell?, hb] at this
  exact ⟨_, this⟩

theorem walk (a0 : Option Addr) (len0 cap0 : Nat) (z0 : List Int) (a1 : Option Addr) (len1 cap1 : Nat) (z1 : List Int) (a2 : Int) (w : World) (w0 : IsRow .u8 w a0 len0 cap0 z0) (w1 : IsRow .u8 w a1 len1 cap1 z1) (w2 : (Lit.int .i64 a2).wf = true) (s0 : Lies w a0) (s1 : Lies w a1) (g0 : cap0 ≤ 140737488351232) (g1 : cap1 ≤ 140737488351232) :
    Calls Tryz.prog 3 #[.slice a0 len0 cap0, .slice a1 len1 cap1, .int .i64 a2] w fun e w' => e = .returned (.bool true) ∧ Below w.heap.size w w' := by
  rcases w0 with ⟨rfl, rfl, rfl, rfl⟩ | ⟨x, rfl, hl, hm, hz, hcell, hwz⟩
  · exact caseA (inv0 993 (W2 0 0 (.map #[] 0) (.map #[] 0) 0 0) w) ⟨rfl, rfl⟩ trivial w2
  · obtain ⟨hsp, cs, e, fz, hb⟩ := s0 x rfl
    have hby := bytesAt hsp hb hl hz hcell
    obtain ⟨b, o, sp⟩ := x
    simp only at hsp
    subst hsp
    simp only at hb hby
    by_cases h0 : len0 = 0
    · subst h0
      exact caseB (ν := W2 b 0 (.map #[] 0) (.map #[] 0) 0 (o + cap0)) (inv0 992 _ w) ⟨⟨by decide, trivial⟩, o, 0, cap0, rfl, Nat.le_refl _, Nat.le_refl _, Nat.zero_le _, Nat.le_add_right _ _, Nat.le_refl _⟩ trivial w2
    · by_cases h1 : len0 ≤ 128
      · -- the key may stand
        have rk : ∀ (b1 : Nat) (o1 : Obj), (AV.sliceT 0 1 128).rel (W2 b b1 (.cells cs e fz) o1 len0 0) 991 (.slice (some ⟨b, o, none⟩) len0 cap0) := fun b1 o1 => ⟨⟨by decide, trivial⟩, .inr ⟨o, cap0, cs, e, fz, rfl, (by show 1 ≤ len0; omega), h1, rfl, hby⟩⟩
        rcases w1 with ⟨rfl, rfl, rfl, rfl⟩ | ⟨y, rfl, hl1, hm1, hz1, hcell1, hwz1⟩
        · exact caseD1 (inv1 991 (by decide) (b1 := 0) (o1 := .map #[] 0) (n := len0) (c := 0) hb) (rk _ _) (.inl ⟨rfl, rfl⟩) w2
        · obtain ⟨hsp1, cs1, e1, fz1, hb1⟩ := s1 y rfl
          have hby1 := bytesAt hsp1 hb1 hl1 hz1 hcell1
          obtain ⟨b1, o1, sp1⟩ := y
          simp only at hsp1
          subst hsp1
          simp only at hb1 hby1
          by_cases hbb : b = b1
          · subst hbb
            rw [hb] at hb1
            cases hb1
            have rv : ∀ lo hi, lo ≤ len1 → len1 ≤ hi → (AV.sliceF 0 lo hi).rel (W2 b 0 (.cells cs e fz) (.map #[] 0) len0 0) 991 (.slice (some ⟨b, o1, none⟩) len1 cap1) := fun lo hi q1 q2 => .inr ⟨⟨by decide, trivial⟩, o1, len1, cap1, cs, e, fz, rfl, q1, q2, rfl, hby1⟩
            have I := inv1 991 (by decide) (b1 := 0) (o1 := .map #[] 0) (n := len0) (c := 0) hb
            by_cases q1 : len1 ≤ 96
            · exact caseD1 I (rk _ _) (rv _ _ (Nat.zero_le _) q1) w2
            · by_cases q2 : len1 ≤ 70000
              · exact caseD2 I (rk _ _) (rv _ _ (by omega) q2) w2
              · exact caseD3 I (rk _ _) (rv _ _ (by omega) (by omega)) w2
          · have rv : ∀ lo hi, lo ≤ len1 → len1 ≤ hi → (AV.sliceF 1 lo hi).rel (W2 b b1 (.cells cs e fz) (.cells cs1 e1 fz1) len0 0) 991 (.slice (some ⟨b1, o1, none⟩) len1 cap1) := fun lo hi q1 q2 => .inr ⟨⟨by decide, trivial⟩, o1, len1, cap1, cs1, e1, fz1, rfl, q1, q2, rfl, hby1⟩
            have I := inv2 991 (by decide) (n := len0) (c := 0) hbb hb hb1
            by_cases q1 : len1 ≤ 96
            · exact caseE1 I (rk _ _) (rv _ _ (Nat.zero_le _) q1) w2
            · by_cases q2 : len1 ≤ 70000
              · exact caseE2 I (rk _ _) (rv _ _ (by omega) q2) w2
              · exact caseE3 I (rk _ _) (rv _ _ (by omega) (by omega)) w2
      · exact caseC (inv1 991 (by decide) (b1 := 0) (o1 := .map #[] 0) (n := len0) (c := 0) hb) ⟨⟨by decide, trivial⟩, .inr ⟨o, cap0, cs, e, fz, rfl, (by show 129 ≤ len0; omega), (by show len0 ≤ _; omega), rfl, hby⟩⟩ trivial w2

theorem lies_of {W : World} {base : Nat} {a : Option Addr} {len cap : Nat} (h : Value.okWide Tryz.prog W .any base 22 (.slice a len cap)) : Lies W a := by
  rintro x rfl
  simp only [Value.okWide, Tryz.underlying22, Cell.okWide, Cell.ok, World.has] at h
  obtain ⟨_, _, _, hs, row, cells, hsh, _⟩ := h
  refine ⟨hs, ?_⟩
  unfold World.shape? at hsh
  split at hsh
  · rename_i c t fz hb; exact ⟨c, t, fz, hb⟩
  · cases hsh

/-! ### THE ROW's STEP: WRITTEN OUT: LEAVE IT -/
set_option maxRecDepth 100000 in
theorem lifted (os : Os) (started : os.Started) (H : Type) (enc : TypeId × Value → H) :
    ReturnsInHanded {} Tryz.checked os 3 .any (Rows.hedgeRefusesSpec.pre6 enc Tryz.prog Tryz.f3 Rows.hedgeRefusesRow.domain false) (Rows.hedgeRefusesSpec.post enc Tryz.prog Tryz.f3 false true false false) := by
  refine returnsInHanded_of_change_sized (C := Tryz.checked) own started (by kernel_rfl) Tryz.func3
    (ChangeSpec.witness6 (enc := enc) (C := Tryz.checked) false ⟨#[], #[.slice none 0 0, .slice none 0 0, .int .i64 0], []⟩ 8 (by kernel_rfl) (by kernel_rfl) (by kernel_rfl) (by kernel_rfl)) ?_
  intro W base args ds gs before hval0 hW hcnd hsz _
  have hval : ∀ (j : Nat) t v, Tryz.f3.params[j]? = some t → args[j]? = some v → Value.okWide Tryz.prog W .any base t v := hval0
  have hW' := hW
  obtain ⟨p, q, hA0, hV, rfl, hfz, hnd⟩ := hW
  have hA : DataW.TrodAll enc Tryz.prog W 0 (fun _ => true) true Tryz.f3.params.toList args.toList ds p := hA0
  rw [Tryz.params3] at hA hval
  obtain ⟨v0, vs0, d0, ds0, p0, q0, hargs, rfl, rfl, h0, r0⟩ := trodAll_cons hA
  obtain ⟨v1, vs1, d1, ds1, p1, q1, rfl, rfl, rfl, h1, r1⟩ := trodAll_cons r0
  obtain ⟨v2, vs2, d2, ds2, p2, q2, rfl, rfl, rfl, h2, r2⟩ := trodAll_cons r1
  obtain ⟨rfl, rfl, rfl⟩ := trodAll_nil r2
  obtain rfl : args = #[v0, v1, v2] := by cases args; simp_all
  obtain ⟨rfl, rfl⟩ := trodVars_none hV
  have hsz1 : (DataW.weightsEach Tryz.prog [22, 22, 3] ([d0, d1, d2] ++ [])).all (· ≤ reachBytes) = true := by
    have := hsz
    rw [Tryz.params3] at this
    exact this
  obtain ⟨a0, len0, cap0, rfl⟩ := okWide_slice Tryz.underlying22 (hval 0 22 v0 rfl rfl)
  have s0 := lies_of (hval 0 22 _ rfl rfl)
  have k0 := h0
  have lt0 : ∀ x ∈ p0, x.block < W.heap.size := by obtain ⟨m, hm⟩ := k0; exact DataW.trod_lt m _ _ _ hm
  obtain ⟨z0, w0, g0⟩ : ∃ zs, IsRow .u8 W a0 len0 cap0 zs ∧ cap0 ≤ 140737488351232 := by
    obtain ⟨fuel, hf⟩ := h0
    rcases open_ints Tryz.underlying22 Tryz.underlying5 (by kernel_rfl) hf with ⟨hcs, _⟩ | ⟨x, l, c, zs, hcs, _, hl, hm, hz, hx, hcell, hwz⟩
    · simp [Value.cells] at hcs
      obtain ⟨rfl, rfl, rfl⟩ := hcs
      exact ⟨[], .inl ⟨rfl, rfl, rfl, rfl⟩, Nat.zero_le _⟩
    · simp [Value.cells] at hcs
      obtain ⟨rfl, rfl, rfl⟩ := hcs
      have hd : d0 = .slice (lits .u8 (zs.take len0)) (lits .u8 (zs.drop len0)) := (Prod.mk.inj hx).1
      have hsz2 := sized_slice hsz1 (j := 0) (t := 22) (e := 5) (elems := lits .u8 (zs.take len0)) (spare := lits .u8 (zs.drop len0)) rfl (by rw [hd]; rfl) Tryz.underlying22
      have hb1 : Tryz.prog.bytesOf 5 = 1 := by kernel_rfl
      rw [hb1] at hsz2
      have hrb : reachBytes = 140737488351232 := by decide
      have hzz : zs.length = cap0 := by simpa using hz
      simp only [lits, List.length_map, List.length_take, List.length_drop] at hsz2
      exact ⟨zs, .inr ⟨_, rfl, hl, hm, hzz, hcell, hwz⟩, by omega⟩
  obtain ⟨a1, len1, cap1, rfl⟩ := okWide_slice Tryz.underlying22 (hval 1 22 v1 rfl rfl)
  have s1 := lies_of (hval 1 22 _ rfl rfl)
  have k1 := h1
  have lt1 : ∀ x ∈ p1, x.block < W.heap.size := by obtain ⟨m, hm⟩ := k1; exact DataW.trod_lt m _ _ _ hm
  obtain ⟨z1, w1, g1⟩ : ∃ zs, IsRow .u8 W a1 len1 cap1 zs ∧ cap1 ≤ 140737488351232 := by
    obtain ⟨fuel, hf⟩ := h1
    rcases open_ints Tryz.underlying22 Tryz.underlying5 (by kernel_rfl) hf with ⟨hcs, _⟩ | ⟨x, l, c, zs, hcs, _, hl, hm, hz, hx, hcell, hwz⟩
    · simp [Value.cells] at hcs
      obtain ⟨rfl, rfl, rfl⟩ := hcs
      exact ⟨[], .inl ⟨rfl, rfl, rfl, rfl⟩, Nat.zero_le _⟩
    · simp [Value.cells] at hcs
      obtain ⟨rfl, rfl, rfl⟩ := hcs
      have hd : d1 = .slice (lits .u8 (zs.take len1)) (lits .u8 (zs.drop len1)) := (Prod.mk.inj hx).1
      have hsz2 := sized_slice hsz1 (j := 1) (t := 22) (e := 5) (elems := lits .u8 (zs.take len1)) (spare := lits .u8 (zs.drop len1)) rfl (by rw [hd]; rfl) Tryz.underlying22
      have hb1 : Tryz.prog.bytesOf 5 = 1 := by kernel_rfl
      rw [hb1] at hsz2
      have hrb : reachBytes = 140737488351232 := by decide
      have hzz : zs.length = cap1 := by simpa using hz
      simp only [lits, List.length_map, List.length_take, List.length_drop] at hsz2
      exact ⟨zs, .inr ⟨_, rfl, hl, hm, hzz, hcell, hwz⟩, by omega⟩
  obtain ⟨a2, rfl, rfl, rfl, w2⟩ := open_int Tryz.underlying3 (hval 2 3 v2 rfl rfl) h2
  clear hA0 hval0
  refine (walk a0 len0 cap0 z0 a1 len1 cap1 z1 a2 W w0 w1 w2 s0 s1 g0 g1).mono fun e W' ⟨he, bel⟩ => ?_
  subst he
  exact ⟨_, rfl, _, _, _, [], _, [], hW', trodAll_mk1 (shut_bool Tryz.underlying4 _), (trodAll_cons_mk (Below.trod laidOut (by kernel_rfl) (of_decide_eq_true (by kernel_rfl)) k0 bel lt0) (trodAll_cons_mk (Below.trod laidOut (by kernel_rfl) (of_decide_eq_true (by kernel_rfl)) k1 bel lt1) (trodAll_cons_mk (shut_int Tryz.underlying3 w2) trodAll_mk0))), rfl, bel.frame _, fun h => by cases h⟩

theorem over : Rows.hedgeRefusesRow.holds Tryz.pinned (OpenSpec.ofChange Rows.hedgeRefusesSpec) :=
  OpenClaim.holds_of_wide 3 Tryz.f3 rfl rfl rfl rfl rfl rfl rfl ⟨rfl, rfl, rfl, rfl, rfl⟩ rfl rfl rfl rfl rfl (by kernel_rfl) Tryz.func3 (by kernel_rfl)
    (of_decide_eq_true (by kernel_rfl)) (by unfold Func.isWrapper; first | (rw [if_pos (by decide +kernel)]; kernel_rfl) | (rw [if_neg (by decide +kernel)]; exact ⟨rfl, rfl⟩))
    (fun os started H enc _ => lifted os started H enc)

/-- ████ THE STATEMENT ████ -/
theorem proved : Rows.HedgeRefusesSaid := over
#print axioms proved
end Go.Proofs.YtdcondepcjijnaaGreat.hedgeRefuses
