/-
  THE EVALUATOR IS RIGHT, third text: the operations that turn no old block.
-/
import Derived.Test.YtdcondepcjijnaaGreatEvD
namespace Go.Ev
open Go

section
variable (P : Program)
/-- What an operation comes to, against what the evaluator said. -/
def Res (ν : V) (h : Heap) (w : World) (r : Result Next) : Out → Prop
  | .val v h' => ∃ u w' ν', r = .ok (.value u) w' ∧ Step P ν h w ν' h' w' ∧ v.rel ν' h'.next u
  | .skip h' => ∃ w' ν', r = .ok .skip w' ∧ Step P ν h w ν' h' w'
  | .enter f args h' => h' = h ∧ ∃ vs : List Value, r = (callFunc f vs.toArray).run P w ∧ relL ν h.next args vs

def Sound (op : Op) (f : OpF) (c : Operand → MO) : Prop :=
  ∀ (ν : V) (h : Heap) (w : World) (ρA : MO → AV) (ρ : Operand → Value) (T : Oper), T.op = op → Inv P ν h w → (∀ x, (ρA (c x)).rel ν h.next (ρ x)) → ∀ out, f ρA h = some out → Res P ν h w ((execOp ρ T).run P w) out

/-- Who only reads. -/
def ResR (ν : V) (h : Heap) (w : World) (r : Result Next) (out : Out) : Prop := ∃ v u, out = .val v h ∧ r = .ok (.value u) w ∧ v.rel ν h.next u
def SoundR (op : Op) (f : OpF) (c : Operand → MO) : Prop :=
  ∀ (ν : V) (h : Heap) (w : World) (ρA : MO → AV) (ρ : Operand → Value) (T : Oper), T.op = op → Inv P ν h w → (∀ x, (ρA (c x)).rel ν h.next (ρ x)) → ∀ out, f ρA h = some out → ResR ν h w ((execOp ρ T).run P w) out
end

variable {P : Program} {ν : V} {h : Heap} {w : World} {ρA : MO → AV} {ρ : Operand → Value} {c : Operand → MO}

theorem Res.val {r : Result Next} {v : AV} {u : Value} (I : Inv P ν h w) (hr : r = .ok (.value u) w) (x : v.rel ν h.next u) : Res P ν h w r (.val v h) := ⟨u, w, ν, hr, Step.refl I, x⟩

theorem ResR.val {r : Result Next} {v : AV} {u : Value} (hr : r = .ok (.value u) w) (x : v.rel ν h.next u) : ResR ν h w r (.val v h) := ⟨v, u, rfl, hr, x⟩
theorem SoundR.sound {op : Op} {f : OpF} (s : SoundR P op f c) : Sound P op f c := fun ν h w ρA ρ T hT I R out e => by
  obtain ⟨v, u, rfl, hr, x⟩ := s ν h w ρA ρ T hT I R out e
  exact Res.val I hr x

theorem valE_some {h : Heap} {v : Option AV} {out : Out} (e : valE h v = some out) : ∃ a, v = some a ∧ out = .val a h := by
  cases v with
  | none => simp [valE] at e
  | some a => exact ⟨a, rfl, by simp [valE] at e; exact e.symm⟩
theorem skipE_some {v : Option Heap} {out : Out} (e : skipE v = some out) : ∃ a, v = some a ∧ out = .skip a := by
  cases v with
  | none => simp [skipE] at e
  | some a => exact ⟨a, rfl, by simp [skipE] at e; exact e.symm⟩
theorem unitE_some {v : Option Heap} {out : Out} (e : unitE v = some out) : ∃ a, v = some a ∧ out = .val (.tuple []) a := by
  cases v with
  | none => simp [unitE] at e
  | some a => exact ⟨a, rfl, by simp [unitE] at e; exact e.symm⟩
theorem aggE_some {v : Option (List AV)} {a : AV} (e : aggE v = some a) : ∃ l, v = some l ∧ a = .agg l := by
  cases v with
  | none => simp [aggE] at e
  | some l => exact ⟨l, rfl, by simp [aggE] at e; exact e.symm⟩

theorem szOf_info {t : TypeId} {n : Nat} (h : szOf P t = some n) : ∃ i, P.info? t = some i ∧ i.size = n := by
  unfold szOf at h
  cases hi : P.info? t with
  | none => simp [hi] at h
  | some i => exact ⟨i, rfl, by simpa [hi] using h⟩
theorem szOf_run {t : TypeId} {n : Nat} (h : szOf P t = some n) (w : World) : (sizeOf t).run P w = .ok n w := by
  obtain ⟨i, hi, rfl⟩ := szOf_info h
  simp [sizeOf, typeInfo, hi]
theorem cellsOf_sz {t : TypeId} {n : Nat} (h : szOf P t = some n) : P.cellsOf t = n := by
  obtain ⟨i, hi, rfl⟩ := szOf_info h
  simp [Program.cellsOf, hi]
theorem zeroOf_info {t : TypeId} {z : AV} (h : zeroOf P t = some z) : ∃ i v, P.info? t = some i ∧ i.zero = some v ∧ z = ofValue v := by
  unfold zeroOf at h
  cases hi : P.info? t with
  | none => simp [hi] at h
  | some i =>
    cases hz : i.zero with
    | none => simp [hi, hz] at h
    | some v => exact ⟨i, v, rfl, hz, by simp [hi, hz] at h; exact h.symm⟩
theorem isAgg_run {t : TypeId} {n : Nat} (h : szOf P t = some n) (w : World) (hd : (P.underlying t).isSome = true) : (isAgg t).run P w = .ok (isAggB P t) w := by
  obtain ⟨d, hd⟩ := Option.isSome_iff_exists.1 hd
  unfold isAgg isAggB
  simp only [Sem.run_bind, run_underlying hd, Result.andThen_ok, hd]
  cases d <;> rfl

/-! Moves -/

theorem ok_mv (x : Operand) : Sound P (.move x) (F_mv (c x)) c := by
  intro ν h w ρA ρ T hT I R out e
  simp only [F_mv, Option.some.injEq] at e
  subst e
  exact Res.val I (by simp [execOp, hT]) (R x)
theorem ok_assign (x : Operand) : Sound P (.assign x) (F_mv (c x)) c := by
  intro ν h w ρA ρ T hT I R out e
  simp only [F_mv, Option.some.injEq] at e
  subst e
  exact Res.val I (by simp [execOp, hT]) (R x)

theorem ok_pick (x a b : Operand) : Sound P (.pick x a b) (F_pick (c x) (c a) (c b)) c := by
  intro ν h w ρA ρ T hT I R out e
  obtain ⟨v, hv, rfl⟩ := valE_some e
  have hx := R x
  cases hc : ρA (c x) <;> simp only [hc, pickE, reduceCtorEq] at hv
  rename_i t
  rw [hc] at hx
  have hx' : ρ x = .bool t := hx
  cases t <;> simp only [Option.some.injEq] at hv <;> subst hv
  · exact Res.val I (by simp [execOp, hT, hx', asBool]) (R b)
  · exact Res.val I (by simp [execOp, hT, hx', asBool]) (R a)

/-! New variables -/

theorem ok_boxE {t : TypeId} {cs : List AV} {vs : Array Value} (I : Inv P ν h w) (r : relL ν h.next cs vs.toList) {out : Out} (e : boxE t cs h = some out) {x : Result Next}
    (hx : x = .ok (.value (.pointer (some ⟨w.heap.size, 0, none⟩))) (w.alloc (.cells vs t))) : Res P ν h w x out := by
  simp only [boxE, Option.some.injEq] at e
  subst e
  obtain ⟨ν', st, hb⟩ := new_flat I (e := t) r
  exact ⟨_, _, ν', hx, st, st.has_new, by rw [hb]⟩

theorem ok_alloc (t : TypeId) {z : AV} (hz : zeroOf P t = some z) : Sound P (.alloc t) (F_alloc t z.cells) c := by
  intro ν h w ρA ρ T hT I R out e
  obtain ⟨i, v, hi, hv, rfl⟩ := zeroOf_info hz
  refine ok_boxE I (cells_ofValue _ v) e ?_
  simp [execOp, hT, Instr.alloc, zeroValue, typeInfo, hi, hv, newVar, newRow]

theorem notAny_of_cells {a : AV} (h : allOne a.cells = true) : a ≠ .any := by
  intro e; subst e; simp [AV.cells, allOne, AV.oneC] at h

theorem ok_box (t : TypeId) (x : Operand) : Sound P (.box t x) (F_box t (c x)) c := by
  intro ν h w ρA ρ T hT I R out e
  have hx := R x
  have e' : (bif allOne (ρA (c x)).cells then boxE t (ρA (c x)).cells h else none) = some out := e
  obtain ⟨h1, e⟩ := cond_opt e'
  refine ok_boxE I (AV.cells_rel hx (notAny_of_cells h1)) e ?_
  simp [execOp, hT, Instr.box, newVar, newRow]

/-! Structs -/

theorem list_splice (l : List Value) (off : Nat) : ∀ (vs : List Value) (k : Nat) (cur : Array Value), off + k + vs.length ≤ cur.size →
    ((vs.zipIdx k).foldl (fun (cs : Array Value) (p : Value × Nat) => cs.setIfInBounds (off + p.2) p.1) cur).toList = cur.toList.take (off + k) ++ vs ++ cur.toList.drop (off + k + vs.length)
  | [], k, cur, _ => by simp
  | v :: r, k, cur, hl => by
    simp only [List.zipIdx_cons, List.foldl_cons]
    rw [list_splice l off r (k + 1) (cur.setIfInBounds (off + k) v) (by simp at hl ⊢; omega)]
    have e := list_seg_step cur.toList (off + k) v r (by simp at hl ⊢; omega)
    simpa [Array.toList_setIfInBounds, Nat.add_assoc] using e

theorem fill_rel {place : Nat → Option (Nat × Nat)} (R : ∀ x, (ρA (c x)).rel ν h.next (ρ x)) : ∀ (parts : List (Nat × Operand)) (l : List (Nat × Nat × MO)) (cs : List AV) (vs : Array Value) (out : List AV),
    cmpParts place c parts = some l → relL ν h.next cs vs.toList → fillM ρA l cs = some out → ∃ us : Array Value, Instr.fill place vs (parts.map fun p => (p.1, ρ p.2)) = some us ∧ relL ν h.next out us.toList
  | [], l, cs, vs, out, hp, hr, hf => by
    simp [cmpParts] at hp
    subst hp
    simp [fillM] at hf
    subst hf
    exact ⟨vs, rfl, hr⟩
  | (i, x) :: r, l, cs, vs, out, hp, hr, hf => by
    simp only [cmpParts] at hp
    cases hq : place i with
    | none => simp [hq] at hp
    | some q =>
      cases hl : cmpParts place c r with
      | none => simp [hq, hl] at hp
      | some l' =>
        simp only [hq, hl, Option.some.injEq] at hp
        subst hp
        simp only [fillM] at hf
        obtain ⟨hb, hf⟩ := cond_opt hf
        simp only [Bool.and_eq_true] at hb
        have b1 := Nat.eq_of_beq_eq_true hb.1.1
        have b2 := Nat.le_of_ble_eq_true hb.1.2
        have hx := AV.cells_rel (R x) (notAny_of_cells hb.2)
        have hlx := relL_len hx
        have hlc := relL_len hr
        have hsz : (ρ x).cells.size = q.2 := by simp at hlx; omega
        have hfit : q.1 + (ρ x).cells.size ≤ vs.size := by simp at hlc; omega
        simp only [List.map_cons, Instr.fill, hq]
        rw [if_neg (by simp [hsz]; simp at hlc; omega)]
        have hsp := list_splice [] q.1 (ρ x).cells.toList 0 vs (by simpa using hfit)
        refine fill_rel R r l' _ _ out hl ?_ hf
        have e1 : ((ρ x).cells.zipIdx.foldl (fun (cs : Array Value) (p : Value × Nat) => cs.setIfInBounds (q.1 + p.2) p.1) vs) = ((ρ x).cells.toList.zipIdx 0).foldl (fun (cs : Array Value) (p : Value × Nat) => cs.setIfInBounds (q.1 + p.2) p.1) vs := by
          rw [← Array.foldl_toList, Array.toList_zipIdx]
        rw [e1, hsp]
        simp only [Nat.add_zero]
        refine relL_append (relL_append (relL_take _ hr) hx) ?_
        have := relL_drop (q.1 + q.2) hr
        rwa [show (ρ x).cells.toList.length = q.2 by simpa using hsz]

theorem places_mapM : ∀ (fs : List Field) (l : List (Nat × Nat)), placesOf P fs = some l → fs.mapM (fun f => (P.info? f.type).map fun i => (f.offset, i.size)) = some l
  | [], l, h => by simp [placesOf] at h; subst h; simp
  | f :: r, l, h => by
    simp only [placesOf] at h
    cases hs : szOf P f.type with
    | none => simp [hs] at h
    | some n =>
      cases hr : placesOf P r with
      | none => simp [hs, hr] at h
      | some l' =>
        simp only [hs, hr, Option.some.injEq] at h
        subst h
        obtain ⟨i, hi, rfl⟩ := szOf_info hs
        simp [List.mapM_cons, hi, places_mapM r l' hr]

theorem ok_build (t : TypeId) (parts : Array (Nat × Operand)) {f : OpF} (hf : cmpBuild P c t parts.toList = some f) : Sound P (.build t parts) f c := by
  intro ν h w ρA ρ T hT I R out e
  unfold cmpBuild at hf
  cases hz : zeroOf P t with
  | none => cases hu : P.underlying t with
    | none => simp [hz, hu] at hf
    | some d => cases d <;> simp [hz, hu] at hf
  | some z =>
    obtain ⟨i, v, hi, hv, rfl⟩ := zeroOf_info hz
    have hcells := cells_ofValue (ν := ν) h.next v
    cases hu : P.underlying t with
    | none => simp [hu] at hf
    | some d =>
      cases d with
      | struct fs =>
        simp only [hu, hz] at hf
        cases hp : placesOf P fs.toList with
        | none => simp [hp] at hf
        | some pl =>
          cases hl : cmpParts (placeL pl) c parts.toList with
          | none => simp [hp, hl] at hf
          | some l =>
            simp only [hp, hl, Option.some.injEq] at hf
            subst hf
            obtain ⟨a, ha, rfl⟩ := valE_some e
            obtain ⟨cs, hcs, rfl⟩ := aggE_some ha
            obtain ⟨us, hus, r⟩ := fill_rel R parts.toList l _ _ _ hl hcells hcs
            have hb : P.built t (parts.map fun p => (p.1, ρ p.2)).toList = some us := by
              unfold Program.built
              simp only [hi, hu, hv, places_mapM _ _ hp]
              have : (fun x => pl.toArray[x]?) = placeL pl := by funext x; simp [placeL]
              rw [this]
              simpa using hus
            refine Res.val I ?_ ⟨us, rfl, r⟩
            have := run_build w t (parts.map fun p => (p.1, ρ p.2)) us hb
            simp [execOp, hT, this]
      | array n el =>
        simp only [hu, hz] at hf
        cases hs : szOf P el with
        | none => simp [hs] at hf
        | some size =>
          cases hl : cmpParts (placeA size) c parts.toList with
          | none => simp [hs, hl] at hf
          | some l =>
            simp only [hs, hl, Option.some.injEq] at hf
            subst hf
            obtain ⟨a, ha, rfl⟩ := valE_some e
            obtain ⟨cs, hcs, rfl⟩ := aggE_some ha
            obtain ⟨us, hus, r⟩ := fill_rel R parts.toList l _ _ _ hl hcells hcs
            obtain ⟨ie, hie, rfl⟩ := szOf_info hs
            have hb : P.built t (parts.map fun p => (p.1, ρ p.2)).toList = some us := by
              unfold Program.built
              simp only [hi, hu, hv, hie]
              have hfn : (fun i => some (i * ie.size, ie.size)) = placeA ie.size := rfl
              rw [hfn]
              simpa using hus
            refine Res.val I ?_ ⟨us, rfl, r⟩
            have := run_build w t (parts.map fun p => (p.1, ρ p.2)) us hb
            simp [execOp, hT, this]
      | _ => simp [hu, hz] at hf

end Go.Ev
