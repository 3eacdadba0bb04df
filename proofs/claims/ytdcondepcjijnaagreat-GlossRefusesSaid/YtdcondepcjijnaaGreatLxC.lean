/-
  lecternlaw19.GlossRefuses ANSWERS TRUE AT EVERY TEXT AND EVERY NUMBER. Conditions: none beyond the given statement's own.
  How: the evaluator's runs (LxA, LxB) at each kind of text (of up to 100 bytes, longer) and of number (below 1, 1, above 1). (The frame began as the print of the seat's proof-skeleton.)
-/
import Derived.Test.YtdcondepcjijnaaGreatRows
import Derived.WalkKit
import Derived.ProofKit
import Derived.OpenShut
import Derived.ShutString
import Derived.ChangeOld
import Derived.Below
import Derived.SizedLaws
import Derived.Test.YtdcondepcjijnaaGreatLxB
namespace Go.Proofs.YtdcondepcjijnaaGreat.glossRefuses
open Go.ChangeShapes Go.WideShapes Go.ChangeAt Go.RowKit
open Go.ChangeMaps (open_string shut_string)
open Go.Ev (AV Heap V T AObj tO relL Inv law_run pathN)
set_option linter.unusedVariables false
set_option maxRecDepth 100000

theorem own : ownKnob Tryz.prog.godebug = none := by kernel_rfl

/-! The three kinds of number -/
theorem num (a : Int) (h : (Lit.int .i64 a).wf = true) (ν : V) (n : Nat) : (AV.rng .i64 (-9223372036854775808) 0).rel ν n (.int .i64 a) ∨ (AV.int .i64 1).rel ν n (.int .i64 a) ∨ (AV.rng .i64 2 9223372036854775807).rel ν n (.int .i64 a) := by
  have hb : -9223372036854775808 ≤ a ∧ a ≤ 9223372036854775807 := by simpa [Lit.wf, IntKind.min, IntKind.max, IntKind.signed, IntKind.bits] using h
  by_cases h1 : a ≤ 0
  · exact .inl ⟨a, rfl, hb.1, h1⟩
  · by_cases h2 : a = 1
    · subst h2; exact .inr (.inl rfl)
    · exact .inr (.inr ⟨a, rfl, by omega, hb.2⟩)

theorem fix0 (S : Nat) (i : Nat) (h : (⟨S, .e⟩ : Heap).obj i ≠ .dead) : (⟨S, .e⟩ : Heap).obj i = .fixed := absurd rfl h
def V0 : V := ⟨fun _ => True, fun _ => 0, fun _ => 0, fun _ => 0, fun _ => .map #[] 0, fun _ => 0⟩
theorem inv0 (S : Nat) (ν : V) (w : World) : Inv Tryz.prog ν ⟨S, .e⟩ w := ⟨fun i hi => absurd rfl hi, fun i hi => absurd rfl hi, fun i hi => absurd rfl hi, fun i j hi => absurd rfl hi⟩
theorem enters (vs : List Value) (w : World) : (callFunc 5 vs.toArray).run Tryz.prog w = .ok (.enter 5 vs.toArray) w := Go.Proofs.callFunc_body Tryz.func5 (by kernel_rfl) rfl

theorem case_s {w : World} {k : Value} {a : Int} (rk : (AV.rel V0 997 (.strU 0 100) k)) (ha : (Lit.int .i64 a).wf = true) :
    Calls Tryz.prog 5 #[k, .int .i64 a] w fun e w' => e = .returned (.bool true) ∧ Below w.heap.size w w' := by
  have I := inv0 997 V0 w
  rcases num a ha V0 997 with r | r | r
  · exact law_run (Go.Ev.evalM_sound hookGM_sound 100000) Qsl (fun i hi => fix0 997 i hi) (vs := [k, .int .i64 a]) I ⟨k, _, rfl, rk, _, _, rfl, r, rfl⟩ (enters _ w)
  · exact law_run (Go.Ev.evalM_sound hookGM_sound 100000) Qsm (fun i hi => fix0 997 i hi) (vs := [k, .int .i64 a]) I ⟨k, _, rfl, rk, _, _, rfl, r, rfl⟩ (enters _ w)
  · exact law_run (Go.Ev.evalM_sound hookGM_sound 100000) Qsh (fun i hi => fix0 997 i hi) (vs := [k, .int .i64 a]) I ⟨k, _, rfl, rk, _, _, rfl, r, rfl⟩ (enters _ w)

theorem case_l {w : World} {k : Value} {a : Int} (rk : (AV.rel V0 997 (.strU 101 140737488351232) k)) (ha : (Lit.int .i64 a).wf = true) :
    Calls Tryz.prog 5 #[k, .int .i64 a] w fun e w' => e = .returned (.bool true) ∧ Below w.heap.size w w' := by
  have I := inv0 997 V0 w
  rcases num a ha V0 997 with r | r | r
  · exact law_run (Go.Ev.evalM_sound hookGM_sound 100000) Qll (fun i hi => fix0 997 i hi) (vs := [k, .int .i64 a]) I ⟨k, _, rfl, rk, _, _, rfl, r, rfl⟩ (enters _ w)
  · exact law_run (Go.Ev.evalM_sound hookGM_sound 100000) Qlm (fun i hi => fix0 997 i hi) (vs := [k, .int .i64 a]) I ⟨k, _, rfl, rk, _, _, rfl, r, rfl⟩ (enters _ w)
  · exact law_run (Go.Ev.evalM_sound hookGM_sound 100000) Qlh (fun i hi => fix0 997 i hi) (vs := [k, .int .i64 a]) I ⟨k, _, rfl, rk, _, _, rfl, r, rfl⟩ (enters _ w)

theorem walk (a0 : ByteArray) (a1 : Int) (w0 : a0.size ≤ 140737488351232) (w1 : (Lit.int .i64 a1).wf = true) (w : World) :
    Calls Tryz.prog 5 #[.string a0, .int .i64 a1] w fun e w' => e = .returned (.bool true) ∧ Below w.heap.size w w' := by
  by_cases h : a0.size ≤ 100
  · exact case_s ⟨a0, rfl, Nat.zero_le _, h⟩ w1
  · exact case_l ⟨a0, rfl, by omega, w0⟩ w1

/-! ### THE ROW's STEP: WRITTEN OUT: LEAVE IT -/
set_option maxRecDepth 100000 in
theorem lifted (os : Os) (started : os.Started) (H : Type) (enc : TypeId × Value → H) :
    ReturnsInHanded {} Tryz.checked os 5 .any (Rows.glossRefusesSpec.pre6 enc Tryz.prog Tryz.f5 Rows.glossRefusesRow.domain false) (Rows.glossRefusesSpec.post enc Tryz.prog Tryz.f5 false true false false) := by
  refine returnsInHanded_of_change_sized (C := Tryz.checked) own started (by kernel_rfl) Tryz.func5
    (ChangeSpec.witness6 (enc := enc) (C := Tryz.checked) false ⟨#[], #[.string ByteArray.empty, .int .i64 0], []⟩ 8 (by kernel_rfl) (by kernel_rfl) (by kernel_rfl) (by kernel_rfl)) ?_
  intro W base args ds gs before hval0 hW hcnd hsz _
  have hval : ∀ (j : Nat) t v, Tryz.f5.params[j]? = some t → args[j]? = some v → Value.okWide Tryz.prog W .any base t v := hval0
  have hW' := hW
  obtain ⟨p, q, hA0, hV, rfl, hfz, hnd⟩ := hW
  have hA : DataW.TrodAll enc Tryz.prog W 0 (fun _ => true) true Tryz.f5.params.toList args.toList ds p := hA0
  rw [Tryz.params5] at hA hval
  obtain ⟨v0, vs0, d0, ds0, p0, q0, hargs, rfl, rfl, h0, r0⟩ := trodAll_cons hA
  obtain ⟨v1, vs1, d1, ds1, p1, q1, rfl, rfl, rfl, h1, r1⟩ := trodAll_cons r0
  obtain ⟨rfl, rfl, rfl⟩ := trodAll_nil r1
  obtain rfl : args = #[v0, v1] := by cases args; simp_all
  obtain ⟨rfl, rfl⟩ := trodVars_none hV
  have hsz1 : (DataW.weightsEach Tryz.prog [9, 3] ([d0, d1] ++ [])).all (· ≤ reachBytes) = true := by
    have := hsz
    rw [Tryz.params5] at this
    exact this
  obtain ⟨a0, rfl, rfl, rfl, w0⟩ := open_string Tryz.underlying9 (hval 0 9 v0 rfl rfl) h0
  obtain ⟨a1, rfl, rfl, rfl, w1⟩ := open_int Tryz.underlying3 (hval 1 3 v1 rfl rfl) h1
  have hst := sized_string hsz1 (j := 0) (t := 9) (bytes := a0.data.toList) rfl rfl
  have hrb : reachBytes = 140737488351232 := by decide
  have hs0 : a0.size ≤ 140737488351232 := by
    rw [hrb] at hst
    simpa using hst
  clear hA0 hval0
  simp only [List.append_nil] at hW'
  refine (walk a0 a1 hs0 w1 W).mono fun e W' ⟨he, bel⟩ => ?_
  subst he
  exact ⟨_, rfl, _, _, _, [], _, [], hW', trodAll_mk1 (shut_bool Tryz.underlying4 _), (trodAll_cons_mk (shut_string Tryz.underlying9 w0) (trodAll_cons_mk (shut_int Tryz.underlying3 w1) trodAll_mk0)), rfl, bel.frame _, fun h => by cases h⟩

theorem over : Rows.glossRefusesRow.holds Tryz.pinned (OpenSpec.ofChange Rows.glossRefusesSpec) :=
  OpenClaim.holds_of_wide 5 Tryz.f5 rfl rfl rfl rfl rfl rfl rfl ⟨rfl, rfl, rfl, rfl, rfl⟩ rfl rfl rfl rfl rfl (by kernel_rfl) Tryz.func5 (by kernel_rfl)
    (of_decide_eq_true (by kernel_rfl)) (by unfold Func.isWrapper; first | (rw [if_pos (by decide +kernel)]; kernel_rfl) | (rw [if_neg (by decide +kernel)]; exact ⟨rfl, rfl⟩))
    (fun os started H enc _ => lifted os started H enc)

/-- ████ THE STATEMENT ████ -/
theorem proved : Rows.GlossRefusesSaid :=
  over
#print axioms proved
end Go.Proofs.YtdcondepcjijnaaGreat.glossRefuses
