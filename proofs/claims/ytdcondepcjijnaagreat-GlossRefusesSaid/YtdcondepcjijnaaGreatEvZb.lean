/-
  CONTRACTS FOR THE EVALUATOR, seventh text: the hooks of this program.
-/
import Derived.Test.YtdcondepcjijnaaGreatEvZa
import Derived.Lib.Overlaps
namespace Go.Proofs
open Go.Ev

set_option maxRecDepth 100000 in
theorem insW160 : InsWalk Tryz.prog 160 86 177 1 where
  enter := fun args w => callFunc_body Tryz.func160 (by kernel_rfl) rfl
  shift := fun b n c i vb m vc w W1 W2 a1 a2 a3 a4 h1 h2 h3 => ins160_shift b n c i vb m vc w W1 W2 a1 a2 a3 a4 (by simpa using h1) (by simpa using h2) (by simpa using h3)
  grow := fun b n c i vb m vc g G w W1 W2 W3 a1 a2 a3 a4 a5 a6 h1 h2 h3 => ins160_grow b n c i vb m vc g G w W1 W2 W3 a1 a2 a3 a4 a5 a6 h1 (by simpa using h2) (by simpa using h3)
  overlaps := fun a b la ca lb cb w tA tB kA kB a1 a2 a3 a4 a5 a6 => by
    rw [run_callFunc_extern Tryz.func177 (by kernel_rfl) (by kernel_rfl) (by kernel_rfl) (e := Extern.SlicesOverlaps.overlaps #[86, 86] #[4]) (by kernel_rfl),
      Lib.run_overlaps_apart w 86 4 22 Tryz.underlying86 1 (fun w => szOf_run (by kernel_rfl) w) a b la ca lb cb a1 tA tB kA kB a2 a3 a4 a5 a6]
    rfl
set_option maxRecDepth 100000 in
theorem insW161 : InsWalk Tryz.prog 161 87 179 3 where
  enter := fun args w => callFunc_body Tryz.func161 (by kernel_rfl) rfl
  shift := fun b n c i vb m vc w W1 W2 a1 a2 a3 a4 h1 h2 h3 => ins161_shift b n c i vb m vc w W1 W2 a1 a2 a3 a4 h1 h2 h3
  grow := fun b n c i vb m vc g G w W1 W2 W3 a1 a2 a3 a4 a5 a6 h1 h2 h3 => ins161_grow b n c i vb m vc g G w W1 W2 W3 a1 a2 a3 a4 a5 a6 h1 h2 h3
  overlaps := fun a b la ca lb cb w tA tB kA kB a1 a2 a3 a4 a5 a6 => by
    rw [run_callFunc_extern Tryz.func179 (by kernel_rfl) (by kernel_rfl) (by kernel_rfl) (e := Extern.SlicesOverlaps.overlaps #[87, 87] #[4]) (by kernel_rfl),
      Lib.run_overlaps_apart w 87 4 85 Tryz.underlying87 3 (fun w => szOf_run (by kernel_rfl) w) a b la ca lb cb a1 tA tB kA kB a2 a3 a4 a5 a6]
    rfl

set_option maxRecDepth 100000 in
theorem ins160_ok : HookOK Tryz.prog 160 (H_insert 22 1) :=
  insert_ok insW160 Tryz.underlying86 Tryz.underlying3 (by kernel_rfl) (by decide) (i0 := (Tryz.prog.info? 22).get (by kernel_rfl)) (by kernel_rfl) (z := .slice none 0 0) (by kernel_rfl) rfl (Nat.le_of_ble_eq_true (by kernel_rfl))
set_option maxRecDepth 100000 in
theorem ins161_ok : HookOK Tryz.prog 161 (H_insert 85 3) :=
  insert_ok insW161 Tryz.underlying87 Tryz.underlying3 (by kernel_rfl) (by decide) (i0 := (Tryz.prog.info? 85).get (by kernel_rfl)) (by kernel_rfl) (z := .agg #[.int .i64 0, .slice none 0 0, .int .i64 0]) (by kernel_rfl) rfl (Nat.le_of_ble_eq_true (by kernel_rfl))

noncomputable section
def hookT : Hook := fun f =>
  bif Nat.ble f 126 then (bif Nat.beq f 58 then some H_sorted else none) else
  bif Nat.beq f 156 then some H_sum else bif Nat.beq f 188 then some H_count else bif Nat.beq f 127 then some H_compare else
  bif Nat.beq f 160 then some (H_insert 22 1) else bif Nat.beq f 161 then some (H_insert 85 3) else none
end

set_option maxRecDepth 100000 in
theorem hookT_sound : HookSound Tryz.prog hookT := by
  intro f g hf
  have key : HookOK Tryz.prog f g := by
    unfold hookT at hf
    have bb : ∀ {a b : Nat}, Nat.beq a b = true → a = b := fun h => Nat.eq_of_beq_eq_true h
    cases h0 : Nat.ble f 126 with
    | true =>
      rw [h0] at hf
      cases h1 : Nat.beq f 58 with
      | true =>
        rw [h1] at hf
        cases bb h1
        simp only [cond_true, Option.some.injEq] at hf
        subst hf
        exact sorted_ok
      | false => rw [h1] at hf; simp at hf
    | false =>
      rw [h0] at hf
      simp only [cond_false] at hf
      cases h1 : Nat.beq f 156 with
      | true => rw [h1] at hf; cases bb h1; simp only [cond_true, Option.some.injEq] at hf; subst hf; exact sum_ok
      | false =>
      rw [h1] at hf
      simp only [cond_false] at hf
      cases h2 : Nat.beq f 188 with
      | true => rw [h2] at hf; cases bb h2; simp only [cond_true, Option.some.injEq] at hf; subst hf; exact count_ok Tryz.func188 (by kernel_rfl) (by kernel_rfl) (by kernel_rfl) (by kernel_rfl)
      | false =>
      rw [h2] at hf
      simp only [cond_false] at hf
      cases h3 : Nat.beq f 127 with
      | true => rw [h3] at hf; cases bb h3; simp only [cond_true, Option.some.injEq] at hf; subst hf; exact compare_ok Tryz.func127 (by kernel_rfl) (by kernel_rfl) (by kernel_rfl) (by kernel_rfl)
      | false =>
      rw [h3] at hf
      simp only [cond_false] at hf
      cases h4 : Nat.beq f 160 with
      | true => rw [h4] at hf; cases bb h4; simp only [cond_true, Option.some.injEq] at hf; subst hf; exact ins160_ok
      | false =>
      rw [h4] at hf
      simp only [cond_false] at hf
      cases h5 : Nat.beq f 161 with
      | true => rw [h5] at hf; cases bb h5; simp only [cond_true, Option.some.injEq] at hf; subst hf; exact ins161_ok
      | false => rw [h5] at hf; simp at hf
  exact key

end Go.Proofs
