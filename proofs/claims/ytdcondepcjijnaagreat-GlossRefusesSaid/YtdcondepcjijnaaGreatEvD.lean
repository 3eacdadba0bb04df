/-
  THE EVALUATOR IS RIGHT, second text: reading and writing cells; new blocks; values of the text.
-/
import Derived.Test.YtdcondepcjijnaaGreatEvC
namespace Go.Ev
open Go

variable {P : Program} {ν : V} {h : Heap} {w : World}

theorem cond_some {α : Type} {b : Bool} {x y : α} (h : (bif b then some x else none) = some y) : b = true ∧ x = y := by
  cases b
  · simp at h
  · simpa using h
theorem cond_none {α : Type} {b : Bool} {x : Option α} {y : α} (h : (bif b then none else x) = some y) : b = false ∧ x = some y := by
  cases b
  · simpa using h
  · simp at h
theorem cond_opt {α : Type} {b : Bool} {x : Option α} {y : α} (h : (bif b then x else none) = some y) : b = true ∧ x = some y := by
  cases b
  · simp at h
  · simpa using h

/-! Values of the program's text -/

theorem rel_ofCell (n : Nat) (v : Value) : (ofCell v).rel ν n v := by
  unfold ofCell
  split <;> first | exact trivial | rfl | exact ⟨_, rfl, rfl⟩ | exact ⟨rfl, rfl⟩

theorem relL_cells (n : Nat) (cs : Array Value) : relL ν n (cs.toList.map ofCell) cs.toList := by
  have := relL_map (ν := ν) (n := n) ofCell id cs.toList fun x _ => rel_ofCell n x
  simpa using this

theorem rel_ofValue (n : Nat) (v : Value) : (ofValue v).rel ν n v := by
  cases v with
  | agg cs => exact ⟨cs, rfl, relL_cells n cs⟩
  | tuple cs =>
    obtain ⟨l⟩ := cs
    cases l with
    | nil => exact ⟨#[], rfl, rfl⟩
    | cons x l => trivial
  | bool b => exact rel_ofCell n (.bool b)
  | int k m => exact rel_ofCell n (.int k m)
  | float k b => exact rel_ofCell n (.float k b)
  | complex k a b => exact rel_ofCell n (.complex k a b)
  | string s => exact rel_ofCell n (.string s)
  | pointer a => exact rel_ofCell n (.pointer a)
  | slice a l c => exact rel_ofCell n (.slice a l c)
  | map r => exact rel_ofCell n (.map r)
  | chan r => exact rel_ofCell n (.chan r)
  | func f a b => exact rel_ofCell n (.func f a b)
  | nilFunc => exact rel_ofCell n .nilFunc
  | iface t v => exact rel_ofCell n (.iface t v)
  | nilIface => exact rel_ofCell n .nilIface

theorem cells_ofValue (n : Nat) (v : Value) : relL ν n (ofValue v).cells v.cells.toList := by
  cases v with
  | agg cs => exact relL_cells n cs
  | tuple cs =>
    obtain ⟨l⟩ := cs
    cases l with
    | nil => exact ⟨_, [], rfl, ⟨#[], rfl, rfl⟩, rfl⟩
    | cons x l => exact ⟨_, [], rfl, trivial, rfl⟩
  | pointer a => cases a <;> exact ⟨_, [], rfl, by first | rfl | trivial, rfl⟩
  | slice a l c => cases a <;> exact ⟨_, [], rfl, by first | exact ⟨rfl, rfl⟩ | trivial, rfl⟩
  | map a => cases a <;> exact ⟨_, [], rfl, by first | rfl | trivial, rfl⟩
  | string s => exact ⟨_, [], rfl, ⟨s, rfl, rfl⟩, rfl⟩
  | _ => exact ⟨_, [], rfl, by first | rfl | trivial, rfl⟩

theorem AV.cells_rel {n : Nat} {a : AV} {v : Value} (r : a.rel ν n v) (ha : a ≠ .any) : relL ν n a.cells v.cells.toList := by
  cases a with
  | any => exact absurd rfl ha
  | agg cs => obtain ⟨vs, rfl, r⟩ := r; exact r
  | bool b => cases r; exact ⟨_, [], rfl, rfl, rfl⟩
  | int k m => cases r; exact ⟨_, [], rfl, rfl, rfl⟩
  | top k => obtain ⟨m, rfl⟩ := r; exact ⟨_, [], rfl, ⟨m, rfl⟩, rfl⟩
  | str s => obtain ⟨b, rfl, e⟩ := r; exact ⟨_, [], rfl, ⟨b, rfl, e⟩, rfl⟩
  | ptr p => cases p with
    | none => cases r; exact ⟨_, [], rfl, rfl, rfl⟩
    | some p => obtain ⟨l, rfl⟩ := r; exact ⟨_, [], rfl, ⟨l, rfl⟩, rfl⟩
  | slice p l c e => cases p with
    | none => obtain ⟨x, rfl⟩ := r; exact ⟨_, [], rfl, ⟨x, rfl⟩, rfl⟩
    | some p => obtain ⟨x, c', rfl, y⟩ := r; exact ⟨_, [], rfl, ⟨x, c', rfl, y⟩, rfl⟩
  | map p => cases p with
    | none => cases r; exact ⟨_, [], rfl, rfl, rfl⟩
    | some p => obtain ⟨l, rfl⟩ := r; exact ⟨_, [], rfl, ⟨l, rfl⟩, rfl⟩
  | func fn f c => obtain ⟨f', c', rfl, y⟩ := r; exact ⟨_, [], rfl, ⟨f', c', rfl, y⟩, rfl⟩
  | nilFunc => cases r; exact ⟨_, [], rfl, rfl, rfl⟩
  | nilIface => cases r; exact ⟨_, [], rfl, rfl, rfl⟩
  | tuple cs => obtain ⟨vs, rfl, r⟩ := r; exact ⟨_, [], rfl, ⟨vs, rfl, r⟩, rfl⟩
  | rng k a b => obtain ⟨m, rfl, x⟩ := r; exact ⟨_, [], rfl, ⟨m, rfl, x⟩, rfl⟩
  | strU a b => obtain ⟨s, rfl, x⟩ := r; exact ⟨_, [], rfl, ⟨s, rfl, x⟩, rfl⟩
  | sliceU i a b => obtain ⟨l, o, len, cap, rfl, x⟩ := r; exact ⟨_, [], rfl, ⟨l, o, len, cap, rfl, x⟩, rfl⟩
  | sliceF i a b =>
    rcases r with ⟨x, rfl⟩ | ⟨l, o, len, cap, cs, el, fz, rfl, x⟩
    · exact ⟨_, [], rfl, .inl ⟨x, rfl⟩, rfl⟩
    · exact ⟨_, [], rfl, .inr ⟨l, o, len, cap, cs, el, fz, rfl, x⟩, rfl⟩
  | sliceT i a b =>
    obtain ⟨l, ⟨x, y, rfl⟩ | ⟨o, cap, cs, el, fz, rfl, x⟩⟩ := r
    · exact ⟨_, [], rfl, ⟨l, .inl ⟨x, y, rfl⟩⟩, rfl⟩
    · exact ⟨_, [], rfl, ⟨l, .inr ⟨o, cap, cs, el, fz, rfl, x⟩⟩, rfl⟩
  | rngT k a b i c => obtain ⟨l, m, rfl, x⟩ := r; exact ⟨_, [], rfl, ⟨l, m, rfl, x⟩, rfl⟩
  | sliceV q a b i c => obtain ⟨l, l', o, len, cap, rfl, x⟩ := r; exact ⟨_, [], rfl, ⟨l, l', o, len, cap, rfl, x⟩, rfl⟩

theorem oneC_rel {n : Nat} {a : AV} {v : Value} (r : a.rel ν n v) (ha : a.oneC = true) : v.oneCell' = true := by
  cases a with
  | any => simp [AV.oneC] at ha
  | agg cs => simp [AV.oneC] at ha
  | tuple cs => simp [AV.oneC] at ha
  | bool b => cases r; rfl
  | int k m => cases r; rfl
  | top k => obtain ⟨m, rfl⟩ := r; rfl
  | str s => obtain ⟨b, rfl, e⟩ := r; rfl
  | ptr p => cases p with
    | none => cases r; rfl
    | some p => obtain ⟨l, rfl⟩ := r; rfl
  | slice p l c e => cases p with
    | none => obtain ⟨x, rfl⟩ := r; rfl
    | some p => obtain ⟨x, c', rfl, y⟩ := r; rfl
  | map p => cases p with
    | none => cases r; rfl
    | some p => obtain ⟨l, rfl⟩ := r; rfl
  | func fn f c => obtain ⟨f', c', rfl, y⟩ := r; rfl
  | nilFunc => cases r; rfl
  | nilIface => cases r; rfl
  | rng k a b => obtain ⟨m, rfl, x⟩ := r; rfl
  | strU a b => obtain ⟨s, rfl, x⟩ := r; rfl
  | sliceU i a b => obtain ⟨l, o, len, cap, rfl, x⟩ := r; rfl
  | sliceF i a b => rcases r with ⟨x, rfl⟩ | ⟨l, o, len, cap, cs, el, fz, rfl, x⟩ <;> rfl
  | sliceT i a b => obtain ⟨l, ⟨x, y, rfl⟩ | ⟨o, cap, cs, el, fz, rfl, x⟩⟩ := r <;> rfl
  | rngT k a b i c => obtain ⟨l, m, rfl, x⟩ := r; rfl
  | sliceV q a b i c => obtain ⟨l, l', o, len, cap, rfl, x⟩ := r; rfl
theorem allOne_rel {n : Nat} : ∀ {l : List AV} {s : List Value}, relL ν n l s → allOne l = true → ∀ v ∈ s, v.oneCell' = true
  | [], _, h, _ => by cases h; simp
  | a :: l, _, ⟨v, s, e, x, y⟩, h => by
    subst e
    simp only [allOne, Bool.and_eq_true] at h
    intro u hu
    rcases List.mem_cons.1 hu with rfl | hu
    · exact oneC_rel x h.1
    · exact allOne_rel y h.2 u hu

/-! Reading -/

/-- The cells of a world from a place on. -/
def HasCells (w : World) (b o : Nat) (l : List Value) : Prop := ∀ j v, l[j]? = some v → w.cell? ⟨b, o + j, none⟩ = some v

theorem addr_add (b o j : Nat) : (⟨b, o, none⟩ : Addr).add j = ⟨b, o + j, none⟩ := by unfold Addr.add; split <;> simp_all

theorem HasCells.run {b o : Nat} {l : List Value} (h : HasCells w b o l) : (loadCells ⟨b, o, none⟩ l.length).run P w = .ok l.toArray w :=
  run_loadCells_list w _ l fun j v hj => by rw [addr_add]; exact h j v hj

/-- Out of what is known cell by cell: the list of them. -/
theorem cells_list {n : Nat} {l : List AV} {c : Array Value} {o : Nat} : ∀ (_ : cellsRel ν n l c o), ∃ s : List Value, relL ν n l s ∧ ∀ (j : Nat) (v : Value), s[j]? = some v → c[o + j]? = some v := by
  induction l generalizing o with
  | nil => exact fun _ => ⟨[], rfl, by simp⟩
  | cons a l ih =>
    intro r
    obtain ⟨u, hu, x⟩ := r 0 a rfl
    have r' : cellsRel ν n l c (o + 1) := fun i b hb => by have := r (i + 1) b (by simpa using hb); rwa [show o + (i + 1) = o + 1 + i by omega] at this
    obtain ⟨s, hs, hc⟩ := ih r'
    refine ⟨u :: s, ⟨u, s, rfl, x, hs⟩, ?_⟩
    intro j v hv
    cases j with
    | zero => simp at hv; subst hv; exact hu
    | succ j => have := hc j v (by simpa using hv); rwa [show o + 1 + j = o + (j + 1) by omega] at this

theorem cell_of_block {b o : Nat} {c : Array Value} {e : TypeId} {fz : Nat × Nat} {v : Value} (hb : w.heap[b]? = some (.cells c e fz)) (hv : c[o]? = some v) : w.cell? ⟨b, o, none⟩ = some v := by
  simp [World.cell?, hb, hv]

theorem cellsRel_drop {n : Nat} {l : List AV} {c : Array Value} {o : Nat} (r : cellsRel ν n l c o) (k : Nat) : cellsRel ν n (l.drop k) c (o + k) := fun i a ha => by
  rw [List.getElem?_drop] at ha
  have := r _ _ ha
  rwa [← Nat.add_assoc] at this
theorem cellsRel_take {n : Nat} {l : List AV} {c : Array Value} {o : Nat} (r : cellsRel ν n l c o) (k : Nat) : cellsRel ν n (l.take k) c o := fun i a ha => by
  rw [List.getElem?_take] at ha
  split at ha
  · exact r _ _ ha
  · simp at ha
theorem cellsRel_append {n : Nat} {l m : List AV} {c : Array Value} {o : Nat} (r : cellsRel ν n l c o) (s : cellsRel ν n m c (o + l.length)) : cellsRel ν n (l ++ m) c o := fun i a ha => by
  by_cases hi : i < l.length
  · rw [List.getElem?_append_left hi] at ha; exact r i a ha
  · rw [List.getElem?_append_right (by omega)] at ha
    have := s _ _ ha
    rwa [show o + l.length + (i - l.length) = o + i by omega] at this

theorem rowsAt_rel {n : Nat} {c : Array Value} {d : List AV} {t : T (List AV)} {s m : Nat} (r : ∀ k, k < m → (rowAt d t k).length = s ∧ cellsRel ν n (rowAt d t k) c (k * s)) :
    ∀ (q k : Nat), k + q ≤ m → cellsRel ν n (rowsAt d t q k) c (k * s) ∧ (rowsAt d t q k).length = q * s := by
  intro q
  induction q with
  | zero =>
    intro k _
    have e : rowsAt d t 0 k = [] := rfl
    rw [e]
    exact ⟨fun i a ha => by simp at ha, by simp⟩
  | succ q ih =>
    intro k hk
    obtain ⟨i1, i2⟩ := ih (k + 1) (by omega)
    obtain ⟨r1, r2⟩ := r k (by omega)
    have e : rowsAt d t (q + 1) k = rowAt d t k ++ rowsAt d t q (k + 1) := rfl
    rw [e]
    refine ⟨cellsRel_append r2 ?_, ?_⟩
    · rw [r1]; rw [Nat.succ_mul] at i1; exact i1
    · rw [List.length_append, r1, i2, Nat.succ_mul, Nat.add_comm]

theorem loadO_rel {i o n : Nat} {a : AObj} {ob : Obj} {l : List AV} {m : Nat} (r : ObjRel P ν m i a ob) (hl : loadO o n a = some l) :
    l.length = n ∧ ∃ c e fz, ob = .cells c e fz ∧ cellsRel ν m l c o := by
  cases a with
  | flat ex e st cs =>
    obtain ⟨c, fz, rfl, hc, -⟩ := r
    obtain ⟨hb, rfl⟩ := cond_some hl
    have hb := Nat.le_of_ble_eq_true hb
    refine ⟨by simp; omega, c, e, fz, rfl, ?_⟩
    have := cellsRel_take (cellsRel_drop hc o) n
    simpa using this
  | tree e s k d t =>
    obtain ⟨c, rfl, hsz, hs, hr⟩ := r
    simp only [loadO] at hl
    cases h1 : (Nat.ble (Nat.mod o s + n) s && Nat.ble (Nat.succ (Nat.div o s)) k) with
    | true =>
      rw [h1] at hl
      simp only [cond_true, Option.some.injEq] at hl
      subst hl
      simp only [Bool.and_eq_true] at h1
      have h2 := Nat.le_of_ble_eq_true h1.1
      have h3 := Nat.le_of_ble_eq_true h1.2
      obtain ⟨r1, r2⟩ := hr (o / s) h3
      have e1 : Nat.div o s = o / s := rfl
      have e2 : Nat.mod o s = o % s := rfl
      rw [e2] at h2
      refine ⟨by rw [List.length_take, List.length_drop]; show min n ((rowAt d t (o / s)).length - o % s) = n; omega, c, e, (0, 0), rfl, ?_⟩
      have := cellsRel_take (cellsRel_drop r2 (o % s)) n
      rw [show o / s * s + o % s = o from Nat.div_add_mod' o s] at this
      exact this
    | false =>
      rw [h1] at hl
      simp only [cond_false] at hl
      obtain ⟨hb, rfl⟩ := cond_some hl
      simp only [Bool.and_eq_true] at hb
      have e1 : o % s = 0 := Nat.eq_of_beq_eq_true hb.1.1
      have e2 : n % s = 0 := Nat.eq_of_beq_eq_true hb.1.2
      have e3 : o / s + n / s ≤ k := Nat.le_of_ble_eq_true hb.2
      obtain ⟨r1, r2⟩ := rowsAt_rel hr (n / s) (o / s) e3
      have e4 := Nat.div_add_mod' o s
      have e5 := Nat.div_add_mod' n s
      refine ⟨by show (rowsAt d t (n / s) (o / s)).length = n; omega, c, e, (0, 0), rfl, ?_⟩
      rw [show o / s * s = o by omega] at r1
      exact r1
  | map es k => simp [loadO] at hl
  | bytes e => simp [loadO] at hl
  | fixed => simp [loadO] at hl
  | mIter a b c d => simp [loadO] at hl
  | sIter a b => simp [loadO] at hl
  | dead => simp [loadO] at hl

theorem obj_of_load {o n : Nat} {a : AObj} {l : List AV} (hl : loadO o n a = some l) : a ≠ .dead := by
  intro e; subst e; simp [loadO] at hl

theorem loadN_rel (I : Inv P ν h w) {i o n : Nat} {l : List AV} (hl : loadN h i o n = some l) : l.length = n ∧ ∃ s : List Value, relL ν h.next l s ∧ HasCells w (ν.blk i) o s := by
  obtain ⟨ob, hb, r⟩ := I.obj i (obj_of_load hl)
  obtain ⟨h1, c, e, fz, rfl, h2⟩ := loadO_rel r hl
  obtain ⟨s, hs, hc⟩ := cells_list h2
  exact ⟨h1, s, hs, fun j v hv => cell_of_block hb (hc j v hv)⟩

theorem loadN_run (I : Inv P ν h w) {i o n : Nat} {l : List AV} (hl : loadN h i o n = some l) : ∃ s : List Value, relL ν h.next l s ∧ s.length = n ∧ (loadCells ⟨ν.blk i, o, none⟩ n).run P w = .ok s.toArray w := by
  obtain ⟨h1, s, hs, hc⟩ := loadN_rel I hl
  have h2 := (relL_len hs).symm.trans h1
  exact ⟨s, hs, h2, by have := hc.run (P := P); rwa [h2] at this⟩

theorem load1_run (I : Inv P ν h w) {i o : Nat} {v : AV} (hl : load1 h i o = some v) : ∃ u, v.rel ν h.next u ∧ w.cell? ⟨ν.blk i, o, none⟩ = some u := by
  unfold load1 at hl
  cases hn : loadN h i o 1 with
  | none => simp [hn, oneL] at hl
  | some l =>
    obtain ⟨h1, s, hs, hc⟩ := loadN_rel I hn
    match l, hs, hl, hn with
    | [x], ⟨u, t, e, r, _⟩, hl, hn =>
      rw [hn] at hl
      simp [oneL] at hl
      subst hl
      subst e
      exact ⟨u, r, by simpa using hc 0 u rfl⟩
    | [], _, hl, hn => rw [hn] at hl; simp [oneL] at hl
    | _ :: _ :: _, _, hl, hn => rw [hn] at hl; simp [oneL] at hl

/-! Writing -/

theorem run_storeCells_fz (g o : Nat) (t : TypeId) (fz : Nat × Nat) : ∀ (vs : List Value) (i : Nat) (cur : Array Value) (w : World), w.heap[g]? = some (.cells cur t fz) → thaw cur.size fz → o + i + vs.length ≤ cur.size → (∀ v ∈ vs, v.oneCell' = true) →
    (storeCells ⟨g, o, none⟩ vs i).run P w = .ok () (w.setRow g (cur.toList.take (o + i) ++ vs ++ cur.toList.drop (o + i + vs.length)).toArray)
  | [], i, cur, w, hg, _, _, _ => by
    simp only [storeCells, List.append_nil, List.length_nil, Nat.add_zero, List.take_append_drop, Array.toArray_toList]
    rw [setRow_self w g cur t fz hg]
    rfl
  | v :: rest, i, cur, w, hg, hz, hl, h1 => by
    have hi : o + i < cur.size := by simp at hl; omega
    have hcell : w.cell? ⟨g, o + i, none⟩ = some cur[o + i] := by simp [World.cell?, hg, hi]
    have hfro : w.frozen? ⟨g, o + i, none⟩ = false := by
      have := hz.not hi
      obtain ⟨a, b⟩ := fz
      simp only [World.frozen?, hg]
      simp only [Bool.and_eq_false_iff, decide_eq_false_iff_not] at *
      by_cases q : a ≤ o + i
      · exact .inr fun q' => this ⟨q, q'⟩
      · exact .inl q
    have hst : (store ((⟨g, o, none⟩ : Addr).add i) v).run P w = .ok () (w.setRow g (cur.setIfInBounds (o + i) v)) := by
      rw [addr_add, run_store P w _ v _ (h1 v (by simp)), hcell]
      simp [hfro, setCell_eq_setRow w g (o + i) cur t fz v hg]
    have ih := run_storeCells_fz g o t fz rest (i + 1) (cur.setIfInBounds (o + i) v) (w.setRow g (cur.setIfInBounds (o + i) v)) (setRow_heap w g cur _ t _ hg) (by simpa using hz) (by simp at hl ⊢; omega) (fun x hx => h1 x (by simp [hx]))
    simp only [storeCells, Sem.run_bind, hst, Result.andThen_ok, ih, setRow_setRow]
    congr 3
    have e := list_seg_step cur.toList (o + i) v rest (by simp at hl ⊢; omega)
    simpa [Array.toList_setIfInBounds, Nat.add_assoc] using e

theorem thaw_mono {n m : Nat} {fz : Nat × Nat} (h : thaw n fz) (hm : m ≤ n) : thaw m fz := by unfold thaw at *; omega

/-- Cells of a row that has been written. -/
theorem cellsRel_splice {n o : Nat} {l vs : List AV} {c : Array Value} {us : List Value} (r : cellsRel ν n l c 0) (s : relL ν n vs us) (ho : o ≤ l.length) (hf : o + us.length ≤ c.size) :
    cellsRel ν n (l.take o ++ vs ++ l.drop (o + vs.length)) (c.toList.take o ++ us ++ c.toList.drop (o + us.length)).toArray 0 := by
  have hl := relL_len s
  have hlc : o ≤ c.toList.length := by simp; omega
  intro i a ha
  simp only [Nat.zero_add, List.getElem?_toArray]
  by_cases h1 : i < o
  · rw [List.append_assoc, List.getElem?_append_left (by simp; omega), List.getElem?_take, if_pos h1] at ha
    obtain ⟨u, hu, x⟩ := r i a ha
    refine ⟨u, ?_, x⟩
    rw [List.append_assoc, List.getElem?_append_left (by simp; omega), List.getElem?_take, if_pos h1]
    simpa using hu
  · by_cases h2 : i < o + vs.length
    · rw [List.getElem?_append_left (by simp; omega), List.getElem?_append_right (by simp; omega)] at ha
      have e1 : (l.take o).length = o := by simp; omega
      rw [e1] at ha
      obtain ⟨u, hu, x⟩ := relL_get s ha
      refine ⟨u, ?_, x⟩
      have e2 : (c.toList.take o).length = o := by simp; omega
      rw [List.getElem?_append_left (by rw [List.length_append, e2]; omega), List.getElem?_append_right (by omega), e2]
      exact hu
    · have e1 : (l.take o ++ vs).length = o + vs.length := by simp; omega
      rw [List.getElem?_append_right (by omega), e1, List.getElem?_drop] at ha
      obtain ⟨u, hu, x⟩ := r _ a ha
      refine ⟨u, ?_, x⟩
      have e2 : (c.toList.take o ++ us).length = o + us.length := by simp; omega
      rw [List.getElem?_append_right (by omega), e2, List.getElem?_drop]
      simp only [Nat.zero_add, Array.getElem?_toList] at hu ⊢
      rw [← hu]; congr 1; omega

theorem splice_size {o : Nat} {c : Array Value} {us : List Value} (hf : o + us.length ≤ c.size) : (c.toList.take o ++ us ++ c.toList.drop (o + us.length)).toArray.size = c.size := by
  simp; omega

theorem splice_other {o k m : Nat} {c : Array Value} {us : List Value} (hf : o + us.length ≤ c.size) (hk : k < o ∨ o + us.length ≤ k) (hm : m = k) : (c.toList.take o ++ us ++ c.toList.drop (o + us.length)).toArray[k]? = c[m]? := by
  subst hm
  simp only [List.getElem?_toArray]
  rcases hk with hk | hk
  · rw [List.append_assoc, List.getElem?_append_left (by simp; omega), List.getElem?_take, if_pos hk]; simp
  · have e2 : (c.toList.take o ++ us).length = o + us.length := by simp; omega
    rw [List.getElem?_append_right (by omega), e2, List.getElem?_drop]
    simp only [Array.getElem?_toList]
    congr 1; omega

/-- 'beyond': what stands behind the known cells is there. -/
theorem storeN_run (I : Inv P ν h w) {i o : Nat} {vs : List AV} {us : List Value} {bey : Bool} {h' : Heap} (r : relL ν h.next vs us)
    (hbey : bey = true → o + vs.length ≤ ν.cap i) (hs : storeN h i o vs bey = some h') :
    ∃ w', (storeCells ⟨ν.blk i, o, none⟩ us).run P w = .ok () w' ∧ Step P ν h w ν h' w' := by
  unfold storeN at hs
  obtain ⟨h1, hs⟩ := cond_opt hs
  have hone := allOne_rel r h1
  have hlen := relL_len r
  generalize ha : h.obj i = a at hs
  have hnd : a ≠ .dead := by intro e; subst e; simp [storeO] at hs
  obtain ⟨ob, hb, ro⟩ := I.obj i (ha ▸ hnd)
  rw [ha] at ro
  cases a with
  | flat ex e st l =>
    obtain ⟨c, fz, rfl, hc, hex, hle, hcap, hesz, hth, hst⟩ := ro
    simp only [storeO] at hs
    obtain ⟨hc1, hs⟩ := cond_some hs
    have hfit : o + us.length ≤ c.size ∧ o ≤ l.length := by
      rcases Bool.or_eq_true _ _ ▸ hc1 with q | q
      · have := Nat.le_of_ble_eq_true q; omega
      · simp only [Bool.and_eq_true] at q
        have := Nat.le_of_ble_eq_true q.2
        have := hbey q.1.1
        omega
    have hrun := run_storeCells_fz (P := P) (ν.blk i) o e fz us 0 c w hb hth (by omega) hone
    rw [Nat.add_zero] at hrun
    refine ⟨_, hrun, ?_⟩
    rw [← hs]
    refine Step.set I (ha ▸ hnd) (setRow_heap w _ _ _ _ _ hb) ⟨_, fz, rfl, cellsRel_splice hc r hfit.2 hfit.1, ?_, ?_, ?_, hesz, ?_, hst⟩ (by simp) (fun k hk => setRow_other w _ _ _ hk) rfl rfl rfl
    · intro hx
      rw [splice_size hfit.1, hex hx]
      rcases Bool.or_eq_true _ _ ▸ hc1 with q | q
      · have := Nat.le_of_ble_eq_true q; simp; omega
      · simp [hx] at q
    · rw [splice_size hfit.1]; simp; omega
    · rw [splice_size hfit.1, hcap]
    · rw [splice_size hfit.1]; exact hth
  | tree e s m d t =>
    obtain ⟨c, rfl, hsz, hs0, hr⟩ := ro
    simp only [storeO] at hs
    obtain ⟨hc1, hs⟩ := cond_some hs
    simp only [Bool.and_eq_true] at hc1
    have g1 : o % s + vs.length ≤ s := Nat.le_of_ble_eq_true hc1.1
    have g2 : o / s + 1 ≤ m := Nat.le_of_ble_eq_true hc1.2
    have e1 : Nat.div o s = o / s := rfl
    have e2 : Nat.mod o s = o % s := rfl
    rw [e1, e2] at hs
    have hdm := Nat.div_add_mod' o s
    have hbig : o / s * s + s ≤ m * s := by rw [← Nat.succ_mul]; exact Nat.mul_le_mul_right s g2
    have hfit : o + us.length ≤ c.size := by omega
    have hrun := run_storeCells_fz (P := P) (ν.blk i) o e (0, 0) us 0 c w hb (.inl rfl) (by omega) hone
    rw [Nat.add_zero] at hrun
    refine ⟨_, hrun, ?_⟩
    rw [← hs]
    refine Step.set I (ha ▸ hnd) (setRow_heap w _ _ _ _ _ hb) ⟨_, rfl, by rw [splice_size hfit, hsz], hs0, ?_⟩ (by simp) (fun k hk => setRow_other w _ _ _ hk) rfl rfl rfl
    intro k hk
    obtain ⟨r1, r2⟩ := hr k hk
    by_cases hko : o / s = k
    · subst hko
      have hrow : rowAt d (t.put (pathN (o / s)) ((rowAt d t (o / s)).take (o % s) ++ vs ++ (rowAt d t (o / s)).drop (o % s + vs.length))) (o / s) = (rowAt d t (o / s)).take (o % s) ++ vs ++ (rowAt d t (o / s)).drop (o % s + vs.length) := by
        simp [rowAt, T.get_put, orD]
      rw [hrow]
      refine ⟨by simp; omega, ?_⟩
      intro j a haj
      have hj : j < s := by
        have := (List.getElem?_eq_some_iff.1 haj).1
        simp at this; omega
      by_cases q1 : j < o % s
      · rw [List.append_assoc, List.getElem?_append_left (by simp; omega), List.getElem?_take, if_pos q1] at haj
        obtain ⟨u, hu, x⟩ := r2 j a haj
        exact ⟨u, by rw [splice_other hfit (.inl (by omega)) rfl]; exact hu, x⟩
      · by_cases q2 : j < o % s + vs.length
        · rw [List.getElem?_append_left (by simp; omega), List.getElem?_append_right (by simp; omega)] at haj
          have e3 : ((rowAt d t (o / s)).take (o % s)).length = o % s := by simp; omega
          rw [e3] at haj
          obtain ⟨u, hu, x⟩ := relL_get r haj
          refine ⟨u, ?_, x⟩
          have e4 : (c.toList.take o).length = o := by simp; omega
          simp only [List.getElem?_toArray]
          rw [List.getElem?_append_left (by rw [List.length_append, e4]; omega), List.getElem?_append_right (by omega), e4, ← hu]
          congr 1; omega
        · have e3 : ((rowAt d t (o / s)).take (o % s) ++ vs).length = o % s + vs.length := by simp; omega
          rw [List.getElem?_append_right (by omega), e3, List.getElem?_drop] at haj
          obtain ⟨u, hu, x⟩ := r2 _ a haj
          refine ⟨u, ?_, x⟩
          rw [splice_other hfit (.inr (by omega)) rfl, ← hu]
          congr 1; omega
    · have hrow : rowAt d (t.put (pathN (o / s)) ((rowAt d t (o / s)).take (o % s) ++ vs ++ (rowAt d t (o / s)).drop (o % s + vs.length))) k = rowAt d t k := by
        have : pathN (o / s) ≠ pathN k := fun q => hko (pathN_inj q)
        simp [rowAt, T.get_put, this]
      rw [hrow]
      refine ⟨r1, fun j a haj => ?_⟩
      have hj : j < s := by have := (List.getElem?_eq_some_iff.1 haj).1; omega
      obtain ⟨u, hu, x⟩ := r2 j a haj
      refine ⟨u, ?_, x⟩
      rw [splice_other hfit ?_ rfl]
      · exact hu
      · rcases Nat.lt_or_gt_of_ne hko with q | q
        · right
          have : (o / s + 1) * s ≤ k * s := Nat.mul_le_mul_right s q
          rw [Nat.succ_mul] at this; omega
        · left
          have : (k + 1) * s ≤ o / s * s := Nat.mul_le_mul_right s q
          rw [Nat.succ_mul] at this; omega
  | bytes e => simp [storeO] at hs
  | fixed => simp [storeO] at hs
  | mIter a b c d => simp [storeO] at hs
  | sIter a b => simp [storeO] at hs
  | map es k => simp [storeO] at hs
  | dead => simp [storeO] at hs

/-! New rows -/

theorem flat_new {n i : Nat} {e : TypeId} {st : Bool} {l : List AV} {c : Array Value} {cap esz : Nat} (hn : i < n) (r : relL ν i l c.toList) (hc : cap = c.size) (he : esz = P.cellsOf e) (b : Nat) :
    ObjRel P (ν.upd i b cap esz) n i (.flat true e st l) (.cells c e) := by
  have hl := relL_len r
  have hag := V.upd_agree ν i b cap esz i (Nat.le_refl _)
  refine ⟨c, (0, 0), rfl, ?_, fun _ => by simpa using hl.symm, by simp at hl; omega, by simp [hc], by simp [he], .inl rfl, fun _ => rfl⟩
  intro j a ha
  obtain ⟨u, hu, x⟩ := relL_get r ha
  exact ⟨u, by simpa using hu, AV.rel_mono hag (by omega) a u x⟩

/-- A new row, exact. -/
theorem new_flatS (I : Inv P ν h w) {e : TypeId} {l : List AV} {c : Array Value} (r : relL ν h.next l c.toList) (st : Bool) :
    ∃ ν', Step P ν h w ν' (h.new (.flat true e st l)) (w.alloc (.cells c e)) ∧ ν'.blk h.next = w.heap.size := by
  refine ⟨ν.upd h.next w.heap.size c.size (P.cellsOf e), Step.new I _ _ c.size (P.cellsOf e) w.drawn ?_, by simp⟩
  have r' : relL (ν.upd h.next w.heap.size c.size (P.cellsOf e)) (h.next + 1) l c.toList := relL_mono (V.upd_agree ν h.next w.heap.size c.size (P.cellsOf e) h.next (Nat.le_refl _)) (by omega) _ _ r
  refine ⟨c, (0, 0), rfl, fun j a ha => ?_, fun _ => ?_, ?_, by simp, by simp, .inl rfl, fun _ => rfl⟩
  · obtain ⟨u, hu, x⟩ := relL_get r' ha
    exact ⟨u, by simpa using hu, x⟩
  · have := relL_len r; simp at this; exact this.symm
  · have := relL_len r; simp at this; omega

theorem new_flat (I : Inv P ν h w) {e : TypeId} {l : List AV} {c : Array Value} (r : relL ν h.next l c.toList) :
    ∃ ν', Step P ν h w ν' (h.new (.flat true e false l)) (w.alloc (.cells c e)) ∧ ν'.blk h.next = w.heap.size :=
  ⟨_, Step.new I _ _ c.size (P.cellsOf e) w.drawn (flat_new (Nat.lt_succ_self _) r rfl rfl _), by simp⟩

end Go.Ev
