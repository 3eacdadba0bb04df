/-
  THE EVALUATOR IS RIGHT, seventh text: makers, slices, fields, elements, lookups, lengths.
-/
import Derived.Test.YtdcondepcjijnaaGreatEvH
namespace Go.Ev
open Go

variable {P : Program} {ν : V} {h : Heap} {w : World} {ρA : MO → AV} {ρ : Operand → Value} {c : Operand → MO}

theorem ok_conv (s d : TypeId) (x : Operand) : Sound P (.convert s d x) (F_conv (cvK P s d) (c x)) c := by
  intro ν h w ρA ρ T hT I R out e
  obtain ⟨r, hr, k⟩ := ok_convE I (untag_rel (R x)) e
  exact k _ (by simp [execOp, hT, ← hr])

theorem ok_mkf (fn : Fn) (a b : Array Operand) : Sound P (.makeFunc fn a b) (F_mkf fn (a.toList.map c) (b.toList.map c)) c := by
  intro ν h w ρA ρ T hT I R out e
  simp only [F_mkf, Option.some.injEq, List.map_map] at e
  subst e
  have r : ∀ l : List Operand, relL ν h.next (l.map (ρA ∘ c)) (l.map ρ) := fun l => relL_map _ _ l fun x _ => R x
  exact Res.val I (u := .func fn (a.map ρ) (b.map ρ)) (by simp [execOp, hT, Instr.makeFunc]) ⟨_, _, rfl, by simpa using r a.toList, by simpa using r b.toList⟩

theorem ok_mkmap (t : TypeId) : Sound P (.makeMap t none) F_mkmap c := by
  intro ν h w ρA ρ T hT I R out e
  simp only [F_mkmap, Option.some.injEq] at e
  subst e
  have st := Step.new (P := P) I (.map [] 0) (.map #[] 0) 0 0 w.drawn ⟨#[], rfl, rfl⟩
  refine ⟨.map (some w.heap.size), _, _, ?_, st, ?_⟩
  · simp [execOp, hT, Instr.makeMap]
  · exact ⟨st.has_new, by simp⟩

/-! make([]T, len, cap) -/

theorem madeCells_list (z : Array Value) (hz : 0 < z.size) (n : Nat) : (madeCells z (n * z.size)).toList = (List.replicate n z.toList).flatten := made_eq z hz n

theorem madeCells_get (z : Array Value) (hz : 0 < z.size) (n i j : Nat) (hi : i < n) (hj : j < z.size) : (madeCells z (n * z.size))[i * z.size + j]? = z[j]? := by
  have hlt : i * z.size + j < n * z.size := by
    have : (i + 1) * z.size ≤ n * z.size := Nat.mul_le_mul_right _ hi
    rw [Nat.succ_mul] at this; omega
  unfold madeCells
  rw [Array.getElem?_map, Array.getElem?_range, if_pos hlt]
  simp only [Option.map_some]
  have hm : (i * z.size + j) % z.size = j := by rw [Nat.mul_comm, Nat.mul_add_mod]; exact Nat.mod_eq_of_lt hj
  rw [hm, getElem!_pos z j hj]
  simp [hj]

theorem ok_mksl (t : TypeId) (l k : Operand) {f : OpF} (hf : cmpMksl P c t l k = some f) : Sound P (.makeSlice t l k) f c := by
  intro ν h w ρA ρ T hT I R out e
  unfold cmpMksl at hf
  cases hu : P.underlying t with
  | none => simp [hu] at hf
  | some d =>
    cases d with
    | slice el =>
      simp only [hu] at hf
      cases hi : P.info? el with
      | none => simp [hi] at hf
      | some i =>
        cases hz : zeroOf P el with
        | none => simp [hi, hz] at hf
        | some z =>
          simp only [hi, hz] at hf
          obtain ⟨hb, hf⟩ := cond_some hf
          simp only [Bool.and_eq_true] at hb
          have b1 := Nat.eq_of_beq_eq_true hb.1
          have b2 := Nat.le_of_ble_eq_true hb.2
          subst hf
          obtain ⟨i', v, hi', hv, rfl⟩ := zeroOf_info hz
          rw [hi] at hi'
          cases hi'
          have hcells := cells_ofValue (ν := ν) h.next v
          have hvs : v.cells.size = i.size := by have := relL_len hcells; simp at this; omega
          have hsz : P.cellsOf el = i.size := by simp [Program.cellsOf, hi]
          simp only [F_mksl] at e
          have rl := R l
          have rk := R k
          generalize hal : ρA (c l) = al at e rl
          generalize hak : ρA (c k) = ak at e rk
          unfold mksl2 at e
          split at e
          · rename_i kl len kc cap
            have hl : ρ l = _ := rl
            have hk : ρ k = _ := rk
            simp only [mkslE] at e
            obtain ⟨hb2, e⟩ := cond_some e
            simp only [Bool.and_eq_true] at hb2
            have c1 := Nat.le_of_ble_eq_true hb2.1.1
            have c2 := Nat.le_of_ble_eq_true hb2.1.2
            have c3 := Nat.le_of_ble_eq_true hb2.2
            subst e
            have hrun := run_make (P := P) w t el i v hu hi hv kl kc (Int.ofNat len) (Int.ofNat cap) (by simp) (by simp; omega) (by rw [Nat.mul_comm] at c2; simp; omega) (by simp; omega)
            simp only [Int.ofNat_eq_natCast, Int.toNat_natCast] at hrun
            have hx : (execOp ρ T).run P w = .ok (.value (.slice (some ⟨w.heap.size, 0, none⟩) len cap)) (w.alloc (.cells (madeCells v.cells (cap * i.size)) el)) := by
              simp only [execOp, hT, hl, hk, Int.ofNat_eq_natCast]
              simp [hrun]
            rw [← hvs] at hx
            cases hq : Nat.ble i.size 1 with
            | true =>
              simp only [cond_true]
              have r := relL_flatten hcells cap
              rw [← madeCells_list v.cells (by omega) cap] at r
              obtain ⟨ν', st, hbk⟩ := new_flat (P := P) I (e := el) r
              exact ⟨_, _, ν', hx, st, st.has_new, cap, by rw [hbk], fun _ => rfl, fun q => by simp at q⟩
            | false =>
              simp only [cond_false]
              have st := Step.new (P := P) I (.tree el i.size cap (ofValue v).cells .e) (.cells (madeCells v.cells (cap * v.cells.size)) el) 0 0 w.drawn
                ⟨_, rfl, by rw [size_madeCells, hvs], by omega, fun q hq => by
                  have e0 : rowAt (ofValue v).cells .e q = (ofValue v).cells := rfl
                  rw [e0]
                  refine ⟨b1, fun j a ha => ?_⟩
                  obtain ⟨u, hu', x⟩ := relL_get hcells ha
                  have hj : j < v.cells.size := by have := (List.getElem?_eq_some_iff.1 ha).1; omega
                  refine ⟨u, ?_, AV.rel_mono (V.upd_agree ν h.next _ 0 0 h.next (Nat.le_refl _)) (by omega) a u x⟩
                  rw [← hvs, madeCells_get v.cells (by omega) cap q j hq hj]
                  simpa using hu'⟩
              exact ⟨_, _, _, hx, st, st.has_new, cap, by simp, fun _ => rfl, fun q => by simp at q⟩
          · simp at e
    | _ => simp [hu] at hf

/-! Slice expressions -/

theorem bound_run {x : AV} {v : Value} (r : x.rel ν h.next v) {y y' i : Nat} (hy : y ≤ y') (hb : bound x y = some i) (code : BoundsCode) : (Instr.sliceBound v y' code).run P w = .ok i w := by
  unfold bound at hb
  split at hb
  · rename_i k n
    obtain ⟨h1, h2⟩ := cond_some hb
    have h1 := Nat.le_of_ble_eq_true h1
    subst h2
    have hv : v = _ := r
    rw [hv]
    simp [Instr.sliceBound, asIntOf]
    omega
  · simp at hb

/-- 'cap'' is the slice's own capacity, 'cap' what is known of it. -/
theorem boundsE_run {R : Operand → AV} {lo hi mx : Option Operand} (hR : ∀ x, (R x).rel ν h.next (ρ x)) (isSlice : Bool) {len cap cap' l u m : Nat} (hcc : cap ≤ cap')
    (hb : boundsE len cap (lo.map R) (hi.map R) (mx.map R) = some (l, u, m)) :
    (Instr.sliceBounds isSlice len cap' (lo.map ρ) (hi.map ρ) (mx.map ρ)).run P w = .ok (l, u, if mx.isNone then cap' else m) w ∧ (mx = none → m = cap) := by
  unfold boundsE at hb
  cases mx with
  | none =>
    simp only [Option.map_none, boundO] at hb
    cases hi with
    | none =>
      simp only [Option.map_none, boundH, bounds2] at hb
      cases lo with
      | none =>
        simp only [Option.map_none, boundO, bounds3, Option.some.injEq, Prod.mk.injEq] at hb
        obtain ⟨rfl, rfl, rfl⟩ := hb
        exact ⟨by simp [Instr.sliceBounds], fun _ => rfl⟩
      | some x =>
        simp only [Option.map_some, boundO] at hb
        cases hx : bound (R x) len with
        | none => simp [hx, bounds3] at hb
        | some i =>
          simp only [hx, bounds3, Option.some.injEq, Prod.mk.injEq] at hb
          obtain ⟨rfl, rfl, rfl⟩ := hb
          have h1 := bound_run (P := P) (w := w) (hR x) (Nat.le_refl _) hx .sliceB
          exact ⟨by simp [Instr.sliceBounds, h1], fun _ => rfl⟩
    | some y =>
      simp only [Option.map_some, boundH] at hb
      cases hy : bound (R y) cap with
      | none => simp [hy, bounds2] at hb
      | some j =>
        simp only [hy, bounds2] at hb
        have g1 := bound_run (P := P) (w := w) (hR y) hcc hy (if isSlice then .sliceAcap else .sliceAlen)
        cases lo with
        | none =>
          simp only [Option.map_none, boundO, bounds3, Option.some.injEq, Prod.mk.injEq] at hb
          obtain ⟨rfl, rfl, rfl⟩ := hb
          exact ⟨by simp [Instr.sliceBounds, g1], fun _ => rfl⟩
        | some x =>
          simp only [Option.map_some, boundO] at hb
          cases hx : bound (R x) j with
          | none => simp [hx, bounds3] at hb
          | some i =>
            simp only [hx, bounds3, Option.some.injEq, Prod.mk.injEq] at hb
            obtain ⟨rfl, rfl, rfl⟩ := hb
            have h1 := bound_run (P := P) (w := w) (hR x) (Nat.le_refl _) hx .sliceB
            exact ⟨by simp [Instr.sliceBounds, g1, h1], fun _ => rfl⟩
  | some z =>
    simp only [Option.map_some, boundO] at hb
    cases hz : bound (R z) cap with
    | none => simp [hz] at hb
    | some q =>
      simp only [hz] at hb
      have f1 := bound_run (P := P) (w := w) (hR z) hcc hz (if isSlice then .slice3Acap else .slice3Alen)
      cases hi with
      | none => simp [boundH, bounds2] at hb
      | some y =>
        simp only [Option.map_some, boundH] at hb
        cases hy : bound (R y) q with
        | none => simp [hy, bounds2] at hb
        | some j =>
          simp only [hy, bounds2] at hb
          have g1 := bound_run (P := P) (w := w) (hR y) (Nat.le_refl _) hy .slice3B
          cases lo with
          | none =>
            simp only [Option.map_none, boundO, bounds3, Option.some.injEq, Prod.mk.injEq] at hb
            obtain ⟨rfl, rfl, rfl⟩ := hb
            exact ⟨by simp [Instr.sliceBounds, f1, g1], fun q => by simp at q⟩
          | some x =>
            simp only [Option.map_some, boundO] at hb
            cases hx : bound (R x) j with
            | none => simp [hx, bounds3] at hb
            | some i =>
              simp only [hx, bounds3, Option.some.injEq, Prod.mk.injEq] at hb
              obtain ⟨rfl, rfl, rfl⟩ := hb
              have h1 := bound_run (P := P) (w := w) (hR x) (Nat.le_refl _) hx .slice3C
              exact ⟨by simp [Instr.sliceBounds, f1, g1, h1], fun q => by simp at q⟩

end Go.Ev
