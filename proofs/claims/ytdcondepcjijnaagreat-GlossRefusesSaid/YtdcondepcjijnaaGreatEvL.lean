/-
  THE EVALUATOR IS RIGHT, tenth text: the operations that write.
-/
import Derived.Test.YtdcondepcjijnaaGreatEvK
namespace Go.Ev
open Go

variable {P : Program} {ν : V} {h : Heap} {w : World} {ρA : MO → AV} {ρ : Operand → Value} {c : Operand → MO}

theorem storeN_one {i o : Nat} {vs : List AV} {b : Bool} {h' : Heap} (hs : storeN h i o vs b = some h') : allOne vs = true ∧ h'.next = h.next := by
  unfold storeN at hs
  obtain ⟨h1, hs⟩ := cond_opt hs
  refine ⟨h1, ?_⟩
  cases ho : h.obj i <;> rw [ho] at hs <;> simp only [storeO, reduceCtorEq] at hs
  · obtain ⟨_, hs⟩ := cond_some hs; rw [← hs]; rfl
  · obtain ⟨_, hs⟩ := cond_some hs; rw [← hs]; rfl

theorem ok_store (t : TypeId) (a x : Operand) {n : Nat} (hs : szOf P t = some n) : Sound P (.store t a x) (F_store n (c a) (c x)) c := by
  intro ν h w ρA ρ T hT I R out e
  obtain ⟨h', hh, rfl⟩ := skipE_some e
  have ra := R a
  generalize haa : ρA (c a) = aa at hh ra
  unfold storeA at hh
  split at hh
  · rename_i p
    obtain ⟨hb, hh⟩ := cond_opt hh
    have hb := Nat.eq_of_beq_eq_true hb
    obtain ⟨hlt, hp⟩ := ra
    obtain ⟨h1, hn⟩ := storeN_one hh
    have rx := AV.cells_rel (R x) (notAny_of_cells h1)
    have hl := relL_len rx
    obtain ⟨w', hr, st⟩ := storeN_run (P := P) I rx (fun q => by simp at q) hh
    refine ⟨w', ν, ?_, st⟩
    have hsz : ¬ (ρ x).cells.size ≠ n := by simp at hl; omega
    simp [execOp, hT, Instr.storeAt, hp, Instr.sureAddr, storeVar, szOf_run hs, hsz, hr]
  · simp at hh

/-! copy -/

theorem lenE_run {x : AV} {vx : Value} (r : x.rel ν h.next vx) {n : Nat} (hl : lenE x = some n) : (Builtin.lenOf vx).run P w = .ok n w := by
  cases x <;> simp only [lenE, reduceCtorEq, Option.some.injEq] at hl
  · subst hl
    obtain ⟨b, rfl, rfl⟩ := r
    simp [Builtin.lenOf]
  · rename_i a l k ex
    subst hl
    cases a with
    | none => obtain ⟨_, rfl⟩ := r; rfl
    | some a => obtain ⟨_, k', rfl, _⟩ := r; rfl

theorem firstE_run (I : Inv P ν h w) {x : AV} {vx : Value} (r : x.rel ν h.next vx) {n size : Nat} {cs : List AV} (hf : firstE h n size x = some cs) :
    ∃ us : List Value, relL ν h.next cs us ∧ (Builtin.firstCells size n vx).run P w = .ok us.toArray w ∧ us.length = n * size := by
  cases x <;> simp only [firstE, reduceCtorEq] at hf
  · rename_i s
    obtain ⟨hb, hf⟩ := cond_some hf
    simp only [Bool.and_eq_true] at hb
    have h1 := Nat.eq_of_beq_eq_true hb.1
    have h2 := Nat.le_of_ble_eq_true hb.2
    subst hf
    obtain ⟨b, rfl, rfl⟩ := r
    refine ⟨(b.data.toList.take n).map fun x => .int .u8 x.toNat, ?_, ?_, ?_⟩
    · have := ofBytes_rel (ν := ν) h.next (b.data.toList.take n)
      rw [← List.map_take]
      exact this
    · simp only [Builtin.firstCells, Sem.run_pure]
      congr 1
      apply Array.ext'
      simp [ByteArray.data_extract]
    · simp only [List.length_map] at h2
      rw [h1, List.length_map, List.length_take]; omega
  · rename_i a l k ex
    cases a with
    | none =>
      obtain ⟨_, rfl⟩ := r
      simp only [firstE] at hf
      obtain ⟨hb, hf⟩ := cond_some hf
      have hb := Nat.eq_of_beq_eq_true hb
      subst hf
      exact ⟨[], rfl, by simp [Builtin.firstCells], by simp [hb]⟩
    | some a =>
      obtain ⟨_, k', rfl, _⟩ := r
      simp only [firstE] at hf
      obtain ⟨us, rr, hn, hr⟩ := loadN_run (P := P) I hf
      exact ⟨us, rr, by simp [Builtin.firstCells, hr], hn⟩

theorem elemSz_spec {t : TypeId} {p : TypeId × Nat} (h : elemSz P t = some p) : P.underlying t = some (.slice p.1) ∧ szOf P p.1 = some p.2 := by
  unfold elemSz at h
  split at h
  · rename_i e hu
    cases hs : szOf P e with
    | none => simp [hs] at h
    | some s => simp only [hs, Option.some.injEq] at h; subst h; exact ⟨hu, hs⟩
  · simp at h

theorem ok_cpy (t : TypeId) (ts : List TypeId) (d s : Operand) {p : TypeId × Nat} (hp : elemSz P t = some p) : Sound P (.call { callee := .builtin .copy, args := #[d, s], argTypes := (t :: ts).toArray }) (F_cpy p.2 (c d) (c s)) c := by
  intro ν h w ρA ρ T hT I R out e
  rw [execBuiltin hT]
  obtain ⟨hu, hs⟩ := elemSz_spec hp
  have rd := R d
  have rs := R s
  simp only [F_cpy] at e
  generalize had : ρA (c d) = ad at e rd
  generalize has : ρA (c s) = sa at e rs
  unfold cpyE at e
  split at e
  · rename_i base dLen k ex
    unfold cpy1 at e
    cases hl : lenE sa with
    | none => simp [hl] at e
    | some sl =>
      simp only [hl] at e
      have hlen := lenE_run (P := P) (w := w) rs hl
      cases hf : firstE h (Nat.min sl dLen) p.2 sa with
      | none => simp [hf, cpy2] at e
      | some cs =>
        simp only [hf, cpy2] at e
        obtain ⟨us, ru, hfr, -⟩ := firstE_run (P := P) I rs hf
        cases base with
        | none =>
          simp only [Option.some.injEq] at e
          subst e
          obtain ⟨_, hd⟩ := rd
          refine Res.val I (u := goInt (Nat.min sl dLen)) ?_ rfl
          simp [builtin, Builtin.copy_, hd, run_underlying hu, hlen, szOf_run hs, hfr]
        | some a =>
          cases hst : storeN h a.1 a.2 cs false with
          | none => simp [hst, cpyIn] at e
          | some h' =>
            simp only [hst, cpyIn, Option.some.injEq] at e
            subst e
            obtain ⟨_, k', hd, _⟩ := rd
            obtain ⟨w', hr, st⟩ := storeN_run (P := P) I ru (fun q => by simp at q) hst
            refine ⟨goInt (Nat.min sl dLen), w', ν, ?_, st, rfl⟩
            simp [builtin, Builtin.copy_, hd, run_underlying hu, hlen, szOf_run hs, hfr, hr]
  · simp at e

/-! append -/

theorem nextslicecap_le {need old : Nat} (h : old < need) (hn : need ≤ 1073741824) : Builtin.nextslicecap need old ≤ 8589934592 := by
  unfold Builtin.nextslicecap
  split
  · omega
  · split
    · omega
    · have key : ∀ (r c : Nat), c ≤ 2 * need + 1000 → Builtin.growBy need r c ≤ 2 * need + 1000 := by
        intro r
        induction r with
        | zero => intro c hc; exact hc
        | succ r ih =>
          intro c hc
          simp only [Builtin.growBy]
          split
          · exact hc
          · exact ih _ (by omega)
      have := key 4 old (by omega)
      omega

/-- In place of a block that is forgotten: another one, in the same place. -/
theorem Step.alias {w' : World} (i : Inv P ν h w) {j : Nat} (hj : h.obj j ≠ .dead) {a : AObj} {o : Obj} (c e : Nat) (ho : w'.heap[ν.blk j]? = some o)
    (r : ObjRel P (ν.upd h.next (ν.blk j) c e) (h.next + 1) h.next a o) (hs : w'.heap.size = w.heap.size) (hf : ∀ k, k ≠ ν.blk j → w'.heap[k]? = w.heap[k]?)
    (h1 : w'.os = w.os) (h2 : w'.tape = w.tape) (h3 : w'.output = w.output) : Step P ν h w (ν.upd h.next (ν.blk j) c e) ((h.set j .dead).new a) w' := by
  have hag := V.upd_agree ν h.next (ν.blk j) c e h.next (Nat.le_refl _)
  have hjn := i.bound j hj
  have hob : ∀ k, ((h.set j .dead).new a).obj k = if h.next = k then a else if j = k then .dead else h.obj k := fun k => by
    rw [Heap.obj_new, Heap.obj_set]; rfl
  have hold : ∀ k, ((h.set j .dead).new a).obj k ≠ .dead → k ≠ h.next → h.obj k ≠ .dead ∧ k ≠ j := fun k hk hn => by
    rw [hob, if_neg (fun q => hn q.symm)] at hk
    by_cases q : j = k
    · rw [if_pos q] at hk; exact (hk rfl).elim
    · rw [if_neg q] at hk; exact ⟨hk, fun q' => q q'.symm⟩
  refine ⟨hag, fun k hk q => V.upd_fresh _ _ _ _ _ (by omega) q, by simp, fun k hk => V.upd_same _ _ _ _ _ (by simp at hk; omega), ⟨?_, ?_, ?_, ?_⟩, ?_, ?_, h1, h2, h3, Nat.le_of_eq hs.symm⟩
  · intro k hk
    by_cases q : k = h.next
    · simp [q]
    · have := i.bound k (hold k hk q).1; simp; omega
  · intro k hk
    by_cases q : k = h.next
    · exact .inl q
    · exact .inr (i.okl k (hold k hk q).1)
  · intro k hk
    by_cases q : k = h.next
    · subst q
      exact ⟨o, by simpa using ho, by rw [hob, if_pos rfl]; exact r⟩
    · obtain ⟨g1, g2⟩ := hold k hk q
      obtain ⟨o', ho', r'⟩ := i.obj k g1
      refine ⟨o', ?_, ?_⟩
      · rw [V.upd_ne _ _ _ _ _ q, hf _ fun q' => g2 (i.inj k j g1 hj q')]; exact ho'
      · rw [hob, if_neg (fun q' => q q'.symm), if_neg (fun q' => g2 q'.symm)]
        exact ObjRel_mono P hag (by simp) (i.has k g1) r'
  · intro k l hk hl e'
    by_cases q : k = h.next <;> by_cases q' : l = h.next
    · omega
    · subst q
      obtain ⟨g1, g2⟩ := hold l hl q'
      rw [V.upd_blk, V.upd_ne _ _ _ _ _ q'] at e'
      exact absurd (i.inj j l hj g1 e').symm g2
    · subst q'
      obtain ⟨g1, g2⟩ := hold k hk q
      rw [V.upd_blk, V.upd_ne _ _ _ _ _ q] at e'
      exact absurd (i.inj k j g1 hj e') g2
    · rw [V.upd_ne _ _ _ _ _ q, V.upd_ne _ _ _ _ _ q'] at e'
      exact i.inj k l (hold k hk q).1 (hold l hl q').1 e'
  · intro k hk
    by_cases q : k = h.next
    · subst q; exact .inl ⟨j, hj, by simp⟩
    · exact .inl ⟨k, (hold k hk q).1, V.upd_ne _ _ _ _ _ q⟩
  · exact fun k _ hk => hf k fun q => hk j hj q.symm

theorem zeroCells_size (z : Array Value) (n : Nat) : (Builtin.zeroCells z n).size = n * z.size := by simp [Builtin.zeroCells]

theorem run_app_room {t u e ty : TypeId} {size : Nat} {d : TypeDesc} (hud : P.underlying u = some d) (hni : ∀ k, d ≠ .int k) (hu : P.underlying t = some (.slice e)) (hs : szOf P e = some size) {base : Option Addr} {len cap n : Nat} {vx : Value} {us : List Value}
    (hl : (Builtin.lenOf vx).run P w = .ok n w) (hfr : (Builtin.firstCells size n vx).run P w = .ok us.toArray w) (hr : len + n ≤ cap) {w' : World}
    (hst : (match base with | some a => (storeCells (a.add (len * size)) us).run P w | none => .ok () w) = .ok () w') :
    (Builtin.append_ #[t, u] ty #[.slice base len cap, vx]).run P w = .ok (.slice base (len + n) cap) w' := by
  have hz : (match d with | .int _ => true | _ => false) = false := by cases d <;> first | rfl | exact absurd rfl (hni _)
  cases base with
  | none =>
    simp only at hst
    cases hst
    simp [Builtin.append_, run_underlying hu, szOf_run hs, run_underlying hud, hz, hl, hr, hfr]
  | some a =>
    simp only at hst
    simp [Builtin.append_, run_underlying hu, szOf_run hs, run_underlying hud, hz, hl, hr, hfr, hst]

theorem lim_fits {bytes need old : Nat} (hby : bytes ≤ 4096) (h : old < need) (hb : need ≤ limOf bytes) : Builtin.nextslicecap need old * bytes ≤ 281474976710656 ∧ need ≤ 140737488355328 := by
  unfold limOf at hb
  cases h1 : Nat.ble bytes 1 with
  | true =>
    rw [h1] at hb
    simp only [cond_true] at hb
    have h1 := Nat.le_of_ble_eq_true h1
    refine ⟨growslice_fits h ?_, hb⟩
    have : need * bytes ≤ need * 1 := Nat.mul_le_mul_left _ h1
    omega
  | false =>
    rw [h1] at hb
    simp only [cond_false] at hb
    have h2 := nextslicecap_le h hb
    have : Builtin.nextslicecap need old * bytes ≤ 8589934592 * 4096 := Nat.mul_le_mul h2 hby
    exact ⟨by omega, by omega⟩

theorem run_app_grow {t u e ty : TypeId} {size : Nat} {d : TypeDesc} (hud : P.underlying u = some d) (hni : ∀ k, d ≠ .int k) (hu : P.underlying t = some (.slice e)) (hs : szOf P e = some size) {i : TypeInfo} (hi : P.info? e = some i) {vz : Value} (hvz : i.zero = some vz) (hby : i.bytes ≤ 4096)
    {base : Option Addr} {len cap n : Nat} {vx : Value} {us os : List Value}
    (hl : (Builtin.lenOf vx).run P w = .ok n w) (hfr : (Builtin.firstCells size n vx).run P w.drew = .ok us.toArray w.drew) (hfo : (Builtin.firstCells size len (.slice base len cap)).run P w.drew = .ok os.toArray w.drew) (hr : cap < len + n) (hb : len + n ≤ limOf i.bytes) :
    ∃ newCap, len + n ≤ newCap ∧ (Builtin.append_ #[t, u] ty #[.slice base len cap, vx]).run P w = .ok (.slice (some ⟨w.heap.size, 0, none⟩) (len + n) newCap) (w.drew.alloc (.cells (os.toArray ++ us.toArray ++ Builtin.zeroCells vz.cells (newCap - (len + n))) e)) := by
  have hz : (match d with | .int _ => true | _ => false) = false := by cases d <;> first | rfl | exact absurd rfl (hni _)
  have hn : ¬ (len + n ≤ cap) := by omega
  obtain ⟨f1, f2⟩ := lim_fits hby hr hb
  have h63' : ¬ (9223372036854775807 < ((len : Int) + (n : Int))) := by omega
  have h48' : ¬ (281474976710656 < Builtin.nextslicecap (len + n) cap * i.bytes) := by omega
  obtain ⟨i', hi', hsz⟩ := szOf_info hs
  rw [hi] at hi'
  cases hi'
  refine ⟨grownCap w (len + n) cap e, grownCap_ge w (len + n) cap e, ?_⟩
  have e0 : (w.drew).alloc (.cells (os.toArray ++ us.toArray ++ Builtin.zeroCells vz.cells (grownCap w (len + n) cap e - (len + n))) e) = (w.drew).alloc (.cells (os.toArray ++ us.toArray ++ Builtin.zeroCells vz.cells (grownCap w (len + n) cap e - (len + n))) e) := rfl
  simp [Builtin.append_, run_underlying hu, run_underlying hud, hz, sizeOf, typeInfo, zeroValue, hi, hvz, hl, hn, h63', h48', Question.forced, hsz, hfr, hfo, newRow, grownCap]
  try (congr 2; apply Array.ext'; simp [List.append_assoc])

theorem esz_of (I : Inv P ν h w) {i : Nat} {e : TypeId} {n : Nat} (hs : szOf P e = some n) (he : elemIs e (h.obj i) = true) : ν.esz i = n := by
  cases ho : h.obj i with
  | flat ex e' st l =>
    rw [ho] at he
    obtain ⟨o, hb, r⟩ := I.obj i (by rw [ho]; simp)
    rw [ho] at r
    obtain ⟨c, fz, rfl, _, _, _, _, q, _, _⟩ := r
    have : e = e' := Nat.eq_of_beq_eq_true he
    rw [q, ← this, cellsOf_sz hs]
  | _ => rw [ho] at he; simp [elemIs] at he

/-! append, where one of both is bytes of which the number alone is known -/

def IsByte (v : Value) : Prop := ∃ m, v = .int .u8 m
theorem byteC_rel {n : Nat} {a : AV} {v : Value} (hb : byteC a = true) (r : a.rel ν n v) : IsByte v := by
  unfold byteC at hb
  split at hb
  · exact ⟨_, r⟩
  · exact r
  · obtain ⟨m, e, _⟩ := r; exact ⟨m, e⟩
  · simp at hb
theorem byteCs_rel {n : Nat} : ∀ {l : List AV} {s : List Value}, relL ν n l s → byteCs l = true → ∀ v ∈ s, IsByte v
  | [], _, h, _ => by cases h; simp
  | a :: l, _, ⟨v, s, e, x, y⟩, h => by
    subst e
    simp only [byteCs, Bool.and_eq_true] at h
    intro u hu
    rcases List.mem_cons.1 hu with rfl | hu
    · exact byteC_rel h.1 x
    · exact byteCs_rel y h.2 u hu

theorem bytes_block (I : Inv P ν h w) {i : Nat} {e : TypeId} (ho : h.obj i = .bytes e) :
    ∃ c fz, w.heap[ν.blk i]? = some (.cells c e fz) ∧ c.size = ν.esz i ∧ ν.cap i ≤ ν.esz i ∧ (∀ j, j < ν.cap i → ∃ m, c[j]? = some (.int .u8 m)) ∧ thaw c.size fz := by
  obtain ⟨ob, hb, r⟩ := I.obj i (by rw [ho]; simp)
  rw [ho] at r
  obtain ⟨c, fz, rfl, r⟩ := r
  exact ⟨c, fz, hb, r⟩

/-- Bytes of a block, read. -/
theorem read_bytes {b o n : Nat} {c : Array Value} {e : TypeId} {fz : Nat × Nat} (hb : w.heap[b]? = some (.cells c e fz)) (hc : ∀ j, j < n → ∃ m, c[o + j]? = some (.int .u8 m)) :
    ∃ us : List Value, us.length = n ∧ (∀ v ∈ us, IsByte v) ∧ (∀ j, j < n → us[j]? = c[o + j]?) ∧ ∀ w' : World, w'.heap = w.heap → (loadCells ⟨b, o, none⟩ n).run P w' = .ok us.toArray w' := by
  have hn : n = 0 ∨ o + n ≤ c.size := by
    rcases Nat.eq_zero_or_pos n with q | q
    · exact .inl q
    · obtain ⟨m, hm⟩ := hc (n - 1) (by omega)
      have := (Array.getElem?_eq_some_iff.1 hm).1
      exact .inr (by omega)
  have hl : ((c.toList.drop o).take n).length = n := by
    rcases hn with q | q
    · subst q; simp
    · simp; omega
  have hg : ∀ j, j < n → ((c.toList.drop o).take n)[j]? = c[o + j]? := fun j hj => by
    rw [List.getElem?_take, if_pos hj, List.getElem?_drop]; simp
  refine ⟨(c.toList.drop o).take n, hl, ?_, hg, ?_⟩
  · intro v hv
    obtain ⟨j, hj⟩ := List.mem_iff_getElem?.1 hv
    have hjn : j < n := by have := (List.getElem?_eq_some_iff.1 hj).1; omega
    obtain ⟨m, hm⟩ := hc j hjn
    rw [hg j hjn, hm] at hj
    exact ⟨m, by simpa using hj.symm⟩
  · intro w' hw
    have : HasCells w' b o ((c.toList.drop o).take n) := fun j v hv => by
      have hjn : j < n := by have := (List.getElem?_eq_some_iff.1 hv).1; omega
      rw [hg j hjn] at hv
      exact cell_of_block (by rw [hw]; exact hb) hv
    have := this.run (P := P)
    rwa [hl] at this

theorem srcU_run (I : Inv P ν h w) {x : AV} {vx : Value} (r : x.rel ν h.next vx) {lo hi : Nat} (hs : srcU h x = some (lo, hi)) :
    ∃ (n : Nat) (us : List Value), lo ≤ n ∧ n ≤ hi ∧ us.length = n ∧ (∀ v ∈ us, IsByte v) ∧ (∀ w' : World, (Builtin.lenOf vx).run P w' = .ok n w') ∧ ∀ w' : World, w'.heap = w.heap → (Builtin.firstCells 1 n vx).run P w' = .ok us.toArray w' := by
  have str : ∀ b : ByteArray, ∃ us : List Value, us.length = b.size ∧ (∀ v ∈ us, IsByte v) ∧ ∀ w' : World, w'.heap = w.heap → (Builtin.firstCells 1 b.size (.string b)).run P w' = .ok us.toArray w' := fun b => by
    have hf : firstE h b.size 1 (.str (b.data.toList.map UInt8.toNat)) = some (ofBytes ((b.data.toList.map UInt8.toNat).take b.size)) := by
      have : Nat.ble b.size (b.data.toList.map UInt8.toNat).length = true := Nat.ble_eq_true_of_le (by simp)
      simp only [firstE, Nat.beq_refl, Bool.true_and, this, cond_true]
    obtain ⟨us, ru, hr, hl⟩ := firstE_run (P := P) (x := .str (b.data.toList.map UInt8.toNat)) (vx := .string b) I ⟨b, rfl, rfl⟩ hf
    refine ⟨us, by omega, ?_, fun w' hw => ?_⟩
    · have hall : ∀ l : List Nat, byteCs (ofBytes l) = true := fun l => by
        induction l with
        | nil => rfl
        | cons a l ih => simp only [ofBytes, List.map_cons, byteCs, byteC, Bool.true_and]; exact ih
      exact byteCs_rel ru (hall _)
    · obtain ⟨us', ru', hr', hl'⟩ := firstE_run (P := P) (w := w') (x := .str (b.data.toList.map UInt8.toNat)) (vx := .string b) (I.same hw) ⟨b, rfl, rfl⟩ hf
      have e1 : (Builtin.firstCells 1 b.size (.string b)).run P w' = .ok us'.toArray w' := hr'
      simp only [Builtin.firstCells, Sem.run_pure] at hr e1 ⊢
      injection hr with q1 q2
      injection e1 with q3 q4
      rw [← q1]
  unfold srcU at hs
  split at hs
  · rename_i i a b
    cases hz : Nat.beq b 0 with
    | true =>
      rw [hz] at hs
      simp only [cond_true, Option.some.injEq, Prod.mk.injEq] at hs
      obtain ⟨rfl, rfl⟩ := hs
      have hz := Nat.eq_of_beq_eq_true hz
      obtain ⟨_, o, len, cap, rfl, b1, b2, b3, b4, b5⟩ := r
      have h0 : len = 0 := by omega
      subst h0
      exact ⟨0, [], Nat.le_refl _, Nat.le_refl _, rfl, by simp, fun w' => by simp [Builtin.lenOf], fun w' hw => by
        have hc : HasCells w' (ν.blk i) o [] := fun j v hj => by simp at hj
        have := hc.run (P := P)
        simp only [List.length_nil] at this
        simp [Builtin.firstCells, this]⟩
    | false =>
    rw [hz] at hs
    simp only [cond_false] at hs
    obtain ⟨hb, hs⟩ := cond_some hs
    simp only [Prod.mk.injEq] at hs
    obtain ⟨rfl, rfl⟩ := hs
    obtain ⟨_, o, len, cap, rfl, b1, b2, b3, b4, b5⟩ := r
    cases ho : h.obj i <;> rw [ho] at hb <;> simp only [anyBytes, Bool.false_eq_true] at hb
    obtain ⟨c, fz, hblk, g1, g2, g3, -⟩ := bytes_block I ho
    obtain ⟨us, u1, u2, -, u3⟩ := read_bytes (P := P) hblk (o := o) (n := len) (fun j hj => g3 _ (by omega))
    exact ⟨len, us, b1, b2, u1, u2, fun w' => by simp [Builtin.lenOf], fun w' hw => by simp [Builtin.firstCells, u3 w' hw]⟩
  · rename_i i a b
    obtain ⟨hb, hs⟩ := cond_some hs
    simp only [Prod.mk.injEq] at hs
    obtain ⟨rfl, rfl⟩ := hs
    rcases r with ⟨q0, rfl⟩ | ⟨_, o, len, cap, cs, el, fz, rfl, b1, b2, b3, b4⟩
    · exact ⟨0, [], by omega, Nat.zero_le _, rfl, by simp, fun w' => by simp [Builtin.lenOf], fun w' hw => by simp [Builtin.firstCells]⟩
    cases ho : h.obj i <;> rw [ho] at hb <;> simp only [isFixed, Bool.false_eq_true] at hb
    obtain ⟨ob, hblk, hv⟩ := I.obj i (by rw [ho]; simp)
    rw [ho] at hv
    have hv' : ob = ν.val i := hv
    rw [hv', b3] at hblk
    obtain ⟨us, u1, u2, -, u3⟩ := read_bytes (P := P) hblk b4
    exact ⟨len, us, b1, b2, u1, u2, fun w' => by simp [Builtin.lenOf], fun w' hw => by simp [Builtin.firstCells, u3 w' hw]⟩
  · rename_i a b
    simp only [Option.some.injEq, Prod.mk.injEq] at hs
    obtain ⟨rfl, rfl⟩ := hs
    obtain ⟨s, rfl, b1, b2⟩ := r
    obtain ⟨us, u1, u2, u3⟩ := str s
    exact ⟨s.size, us, b1, b2, u1, u2, fun w' => by simp [Builtin.lenOf], u3⟩
  · rename_i a
    simp only [Option.some.injEq, Prod.mk.injEq] at hs
    obtain ⟨rfl, rfl⟩ := hs
    obtain ⟨s, rfl, rfl⟩ := r
    obtain ⟨us, u1, u2, u3⟩ := str s
    exact ⟨s.size, us, by simp, by simp, u1, u2, fun w' => by simp [Builtin.lenOf], u3⟩
  · rename_i a n _ _
    obtain ⟨hb, hs⟩ := cond_some hs
    simp only [Prod.mk.injEq] at hs
    obtain ⟨rfl, rfl⟩ := hs
    obtain ⟨_, k', rfl, _⟩ := r
    cases hl : loadN h a.1 a.2 n with
    | none => rw [hl] at hb; simp [byteL] at hb
    | some l =>
      rw [hl] at hb
      obtain ⟨h1, s, hs, hc⟩ := loadN_rel (P := P) I hl
      have h2 := (relL_len hs).symm.trans h1
      refine ⟨n, s, Nat.le_refl _, Nat.le_refl _, h2, byteCs_rel hs hb, fun w' => by simp [Builtin.lenOf], fun w' hw => ?_⟩
      have hc' : HasCells w' (ν.blk a.1) a.2 s := fun j v hv => by
        have := hc j v hv
        unfold World.cell? at this ⊢
        rw [hw]; exact this
      have := hc'.run (P := P)
      rw [h2] at this
      simp [Builtin.firstCells, this]
  · simp at hs

theorem byte_one {us : List Value} (hb : ∀ v ∈ us, IsByte v) : ∀ v ∈ us, v.oneCell' = true := fun v hv => by
  obtain ⟨m, rfl⟩ := hb v hv; rfl

/-- The like, with the lengths told. -/
def ResL (P : Program) (ν : V) (h : Heap) (w : World) (r : Result Next) (out : Out) (vs vx : Value) : Prop :=
  ∃ (q lo hi : Nat) (h' : Heap) (w' : World) (ν' : V) (o L n cap : Nat), out = .val (.sliceU q lo hi) h' ∧ r = .ok (.value (.slice (some ⟨ν'.blk q, o, none⟩) (L + n) cap)) w' ∧ Step P ν h w ν' h' w' ∧ ν'.has h'.next q ∧
    lo ≤ L + n ∧ L + n ≤ hi ∧ L + n ≤ cap ∧ o + (L + n) ≤ ν'.cap q ∧ o + cap ≤ ν'.esz q ∧ (∃ b c, vs = .slice b L c) ∧ (Builtin.lenOf vx).run P w = .ok n w
theorem ResL.res {r : Result Next} {out : Out} {vs vx : Value} (x : ResL P ν h w r out vs vx) : Res P ν h w r out := by
  obtain ⟨q, lo, hi, h', w', ν', o, L, n, cap, rfl, hr, st, hh, a1, a2, a3, a4, a5, _⟩ := x
  exact ⟨_, w', ν', hr, st, hh, o, L + n, cap, rfl, a1, a2, a3, a4, a5⟩

theorem ok_appU {t u e ty : TypeId} {d : TypeDesc} (hud : P.underlying u = some d) (hni : ∀ k, d ≠ .int k) (hu : P.underlying t = some (.slice e)) (hs : szOf P e = some 1) {i : TypeInfo} (hi : P.info? e = some i) {vz : Value} (hvz : i.zero = some vz) (hby : i.bytes ≤ 4096) (hzs : vz.cells.size = 1)
    (I : Inv P ν h w) {sa xa : AV} {vs vx : Value} (rs : sa.rel ν h.next vs) (rx : xa.rel ν h.next vx) {lo hi' : Nat} (hsrc : srcU h xa = some (lo, hi')) {out : Out} (ho : apU e (limOf i.bytes) h lo hi' sa = some out) :
    ResL P ν h w ((do pure (.value (← Builtin.append_ #[t, u] ty #[vs, vx])) : Sem Next).run P w) out vs vx := by
  obtain ⟨n, us, n1, n2, hun, hub, hlen, hfr⟩ := srcU_run (P := P) I rx hsrc
  have hone := byte_one hub
  -- into a new block
  have grow : ∀ {h0 : Heap} (st0 : Step P ν h w ν h0 w) (hn0 : h0.next = h.next) {base : Option Addr} {len cap lo' hi'' : Nat} {os : List Value}, vs = .slice base len cap → os.length = len → (∀ v ∈ os, IsByte v) →
      (Builtin.firstCells 1 len vs).run P w.drew = .ok os.toArray w.drew → cap < len + n → lo' ≤ len + n → len + n ≤ hi'' → apUv e (limOf i.bytes) h0 lo' hi'' = some out → ResL P ν h w ((do pure (.value (← Builtin.append_ #[t, u] ty #[vs, vx])) : Sem Next).run P w) out vs vx := by
    intro h0 st0 hn0 base len cap lo' hi'' os hvs hos hob hfo hlt hl1 hl2 hap
    unfold apUv at hap
    obtain ⟨hbig, hap⟩ := cond_some hap
    have hbig := Nat.le_of_ble_eq_true hbig
    subst hap
    subst hvs
    obtain ⟨nc, hnc, hrun⟩ := run_app_grow (P := P) (w := w) (ty := ty) hud hni hu hs hi hvz hby (hlen w) (hfr w.drew rfl) hfo hlt (by omega)
    have hcells : ∀ j, j < len + n → ∃ m, (os.toArray ++ us.toArray ++ Builtin.zeroCells vz.cells (nc - (len + n)))[j]? = some (.int .u8 m) := fun j hj => by
      rw [Array.getElem?_append_left (by simp; omega)]
      have hj' : j < (os ++ us).length := by simp; omega
      have hmem : (os ++ us)[j] ∈ os ++ us := List.getElem_mem hj'
      have hby : IsByte (os ++ us)[j] := by
        rcases List.mem_append.1 hmem with q | q
        · exact hob _ q
        · exact hub _ q
      obtain ⟨m, hm⟩ := hby
      refine ⟨m, ?_⟩
      rw [← hm]
      simp
    have hsize : (os.toArray ++ us.toArray ++ Builtin.zeroCells vz.cells (nc - (len + n))).size = nc := by
      rw [Array.size_append, Array.size_append, zeroCells_size, hzs]
      simp only [List.size_toArray]
      omega
    obtain ⟨ν', st1, g1, g2, g3⟩ := new_bytes (P := P) st0.inv (e := e) (n := len + n) (by rw [hsize]; exact hnc) hcells (w.drawn + 1)
    refine ⟨_, lo', hi'', _, _, ν', 0, len, n, nc, rfl, ?_, st0.trans st1, st1.has_new, hl1, hl2, hnc, by rw [g2]; omega, by rw [g3, hsize]; omega, ⟨_, _, rfl⟩, hlen w⟩
    rw [g1]
    simp only [Sem.run_bind, hrun, Result.andThen_ok, Sem.run_pure]
    rfl
  -- in place
  have room : ∀ {j o len cap lo' hi'' q : Nat} {cs : Array Value} {fz : Nat × Nat}, vs = .slice (some ⟨ν.blk j, o, none⟩) len cap → h.obj j ≠ .dead → w.heap[ν.blk j]? = some (.cells cs e fz) → thaw cs.size fz →
      len + n ≤ cap → o + cap ≤ cs.size → o + len ≤ q → q ≤ cs.size → (∀ k, k < q → ∃ m, cs[k]? = some (.int .u8 m)) → lo' ≤ len + n → len + n ≤ hi'' → apUv e (limOf i.bytes) (h.set j .dead) lo' hi'' = some out → ResL P ν h w ((do pure (.value (← Builtin.append_ #[t, u] ty #[vs, vx])) : Sem Next).run P w) out vs vx := by
    intro j o len cap lo' hi'' q cs fz hvs hj hb hth hin hfit hq1 hq2 hq3 hl1 hl2 hap
    unfold apUv at hap
    obtain ⟨hbig, hap⟩ := cond_some hap
    subst hap
    subst hvs
    have hst := run_storeCells_fz (P := P) (ν.blk j) (o + len) e fz us 0 cs w hb hth (by omega) hone
    rw [Nat.add_zero] at hst
    have hrun := run_app_room (P := P) (w := w) (ty := ty) hud hni hu hs (base := some ⟨ν.blk j, o, none⟩) (len := len) (n := n) (cap := cap) (hlen w) (hfr w rfl) hin (w' := w.setRow (ν.blk j) (cs.toList.take (o + len) ++ us ++ cs.toList.drop (o + len + us.length)).toArray) (by simp only [addr_add, Nat.mul_one]; exact hst)
    have hsz2 : (cs.toList.take (o + len) ++ us ++ cs.toList.drop (o + len + us.length)).toArray.size = cs.size := splice_size (by omega)
    have hcells : ∀ k, k < max q (o + len + n) → ∃ m, (cs.toList.take (o + len) ++ us ++ cs.toList.drop (o + len + us.length)).toArray[k]? = some (.int .u8 m) := fun k hk => by
      rw [List.getElem?_toArray]
      by_cases k1 : k < o + len
      · obtain ⟨m, hm⟩ := hq3 k (by omega)
        refine ⟨m, ?_⟩
        rw [List.append_assoc, List.getElem?_append_left (by simp; omega), List.getElem?_take, if_pos k1]
        simpa using hm
      · by_cases k2 : k < o + len + n
        · have hk3 : k - (o + len) < us.length := by omega
          obtain ⟨m, hm⟩ := hub _ (List.getElem_mem hk3)
          refine ⟨m, ?_⟩
          have e1 : (cs.toList.take (o + len)).length = o + len := by simp; omega
          rw [List.getElem?_append_left (by simp; omega), List.getElem?_append_right (by omega), e1, ← hm]
          simp
        · obtain ⟨m, hm⟩ := hq3 k (by omega)
          refine ⟨m, ?_⟩
          have e1 : (cs.toList.take (o + len) ++ us).length = o + len + n := by simp; omega
          rw [List.getElem?_append_right (by omega), e1, List.getElem?_drop, hun, show o + len + n + (k - (o + len + n)) = k by omega]
          simpa using hm
    have st := Step.alias (P := P) (w' := w.setRow (ν.blk j) (cs.toList.take (o + len) ++ us ++ cs.toList.drop (o + len + us.length)).toArray) I (j := j) hj (a := .bytes e) (max q (o + len + n)) cs.size (setRow_heap w _ _ _ _ _ hb)
      ⟨_, fz, rfl, by rw [hsz2]; simp, by simp; omega, by simpa using hcells, by rw [hsz2]; exact hth⟩
      (by simp) (fun k hk => setRow_other w _ _ _ hk) rfl rfl rfl
    refine ⟨_, lo', hi'', _, _, _, o, len, n, cap, rfl, ?_, st, V.upd_has _ _ _ _ _ (by simp), hl1, hl2, hin, ?_, ?_, ⟨_, _, rfl⟩, hlen w⟩
    · simp only [Heap.next_set, V.upd_blk, Sem.run_bind, hrun, Result.andThen_ok, Sem.run_pure]
    · show o + (len + n) ≤ (ν.upd h.next (ν.blk j) (max q (o + len + n)) cs.size).cap h.next
      rw [V.upd_cap]; omega
    · show o + cap ≤ (ν.upd h.next (ν.blk j) (max q (o + len + n)) cs.size).esz h.next
      rw [V.upd_esz]; exact hfit
  unfold apU at ho
  split at ho
  · rename_i len cap ex
    obtain ⟨hb, ho2⟩ := cond_opt ho
    simp only [Bool.and_eq_true] at hb
    have b1 := Nat.eq_of_beq_eq_true hb.1
    have b2 := Nat.le_of_ble_eq_true hb.2
    clear ho
    subst b1
    obtain ⟨_, hx⟩ := rs
    exact grow (Step.refl I) rfl (os := []) (lo' := lo) (hi'' := hi') hx rfl (by simp) (by rw [hx]; simp [Builtin.firstCells]) (by omega) (by omega) (by omega) ho2
  · rename_i a len cap
    obtain ⟨hb, ho⟩ := cond_opt ho
    simp only [Bool.and_eq_true] at hb
    have b1 := Nat.le_of_ble_eq_true hb.1
    obtain ⟨hlt, cap', hx, hex, _⟩ := rs
    cases hex rfl
    cases hl : loadN h a.1 a.2 len with
    | none => rw [hl] at hb; simp [byteL] at hb
    | some l =>
      rw [hl] at hb
      have Id : Inv P ν h w.drew := I.same rfl
      obtain ⟨os, ro, hn, hr⟩ := loadN_run (P := P) Id hl
      exact grow (Step.refl I) rfl hx hn (byteCs_rel ro hb.2) (by rw [hx]; simp [Builtin.firstCells, hr]) (by omega) (by omega) (by omega) ho
  · rename_i j len cap
    obtain ⟨hb, ho⟩ := cond_opt ho
    simp only [Bool.and_eq_true] at hb
    obtain ⟨hlt, cap', hx, _, hop⟩ := rs
    obtain ⟨g1, g2⟩ := hop rfl
    have g2 := g2 rfl
    cases hl : loadN h j 0 len with
    | none => rw [hl] at hb; simp [byteL] at hb
    | some l =>
      rw [hl] at hb
      have Id : Inv P ν h w.drew := I.same rfl
      obtain ⟨os, ro, hn, hr⟩ := loadN_run (P := P) Id hl
      by_cases hin : len + n ≤ cap'
      · have hes := esz_of (P := P) I hs hb.1
        rw [hes, Nat.mul_one] at g2
        obtain ⟨rl, sl0, hrl, hreal⟩ := loadN_rel I hl
        have hbl := byteCs_rel hrl hb.2
        have hsl : sl0.length = len := (relL_len hrl).symm.trans rl
        cases hob : h.obj j with
        | flat ex' e' st' l' =>
          obtain ⟨ob, hblk, ro'⟩ := I.obj j (by rw [hob]; simp)
          rw [hob] at ro'
          obtain ⟨cs, fz, rfl, hc1, hc2, hc3, hc4, hc5, hc6, hc7⟩ := ro'
          rw [hob] at hb
          have he' : e = e' := Nat.eq_of_beq_eq_true hb.1
          subst he'
          refine room hx (by rw [hob]; simp) hblk hc6 hin (by simp only at g2; omega) (q := len) (by omega) (by simp only at g2; omega) ?_ (by omega) (by omega) ho
          intro k hk
          obtain ⟨m, hm⟩ := hbl _ (List.getElem_mem (show k < sl0.length by omega))
          have := hreal k _ (List.getElem?_eq_getElem (by omega))
          rw [hm] at this
          refine ⟨m, ?_⟩
          simp only [World.cell?, hblk, Nat.zero_add] at this
          simpa using this
        | _ => rw [hob] at hb; simp [elemIs] at hb
      · exact grow (Step.kill I j) rfl hx hn (byteCs_rel ro hb.2) (by rw [hx]; simp [Builtin.firstCells, hr]) (by omega) (by omega) (by omega) ho
  · rename_i j a b
    obtain ⟨hb, ho⟩ := cond_opt ho
    obtain ⟨_, o, len, cap, hx, b1, b2, b3, b4, b5⟩ := rs
    cases hob : h.obj j <;> rw [hob] at hb <;> simp only [isBytes, Bool.false_eq_true] at hb
    rename_i e'
    have he' : e = e' := Nat.eq_of_beq_eq_true hb
    subst he'
    obtain ⟨c, fz, hblk, g1, g2, g3, g4⟩ := bytes_block I hob
    by_cases hin : len + n ≤ cap
    · exact room hx (by rw [hob]; simp) hblk g4 hin (by omega) (q := ν.cap j) b4 (by omega) g3 (by omega) (by omega) ho
    · obtain ⟨os, u1, u2, -, u3⟩ := read_bytes (P := P) hblk (o := o) (n := len) (fun k hk => g3 _ (by omega))
      exact grow (Step.kill I j) rfl hx u1 u2 (by rw [hx]; simp [Builtin.firstCells, u3 w.drew rfl]) (by omega) (by omega) (by omega) ho
  · simp at ho

theorem ok_app (t u : TypeId) (s x : Operand) {d : TypeDesc} (hud : P.underlying u = some d) (hni : ∀ k, d ≠ .int k) {p : TypeId × Nat} (hp : elemSz P t = some p) {i : TypeInfo} {z : AV} (hi : P.info? p.1 = some i) (hz : zeroOf P p.1 = some z)
    (hok : apOk z.cells p.2 i.bytes = true) : Sound P (.call { callee := .builtin .append, args := #[s, x], argTypes := #[t, u] }) (F_app p.1 p.2 (limOf i.bytes) (c s) (c x)) c := by
  intro ν h w ρA ρ T hT I R out e
  rw [execBuiltin hT]
  obtain ⟨hu, hs⟩ := elemSz_spec hp
  obtain ⟨i', vz, hi', hvz, rfl⟩ := zeroOf_info hz
  rw [hi] at hi'
  cases hi'
  simp only [apOk, Bool.and_eq_true] at hok
  have k1 := Nat.eq_of_beq_eq_true hok.1.1
  have k2 := Nat.le_of_ble_eq_true hok.1.2
  have k3 := Nat.le_of_ble_eq_true hok.2
  have hzs : vz.cells.size = p.2 := by have := relL_len (cells_ofValue (ν := ν) h.next vz); simp at this; omega
  have hzero : (zeroValue p.1).run P w = .ok vz w := by simp [zeroValue, typeInfo, hi, hvz]
  have rs := R s
  have rx := R x
  simp only [F_app] at e
  generalize hae : ρA (c s) = sa at e rs
  generalize hax : ρA (c x) = xa at e rx
  unfold appendE at e
  cases hU : (isU xa || isU sa) with
  | true =>
    rw [hU] at e
    simp only [cond_true] at e
    unfold appendU at e
    cases hsr : srcU h (untag xa) with
    | none => rw [hsr] at e; simp [zeroU, apB, tagO] at e
    | some q =>
      obtain ⟨lo, hi'⟩ := q
      rw [hsr] at e
      cases hz : zeroU (some (lo, hi')) with
      | true =>
        rw [hz] at e
        simp only [cond_true] at e
        have hz : hi' = 0 := Nat.eq_of_beq_eq_true hz
        unfold appendZ at e
        split at e
        · rename_i a len cap
          obtain ⟨hle, e⟩ := cond_some e
          have hle := Nat.le_of_ble_eq_true hle
          subst e
          have rs2 := rs
          obtain ⟨_, cap', hx, hex, _⟩ := rs2
          cases hex rfl
          obtain ⟨n, us, n1, n2, n3, n4, n5, n6⟩ := srcU_run (P := P) I (untag_rel rx) hsr
          have h0 : n = 0 := by omega
          subst h0
          have hus : us = [] := List.length_eq_zero_iff.1 n3
          subst hus
          refine Res.val I (u := .slice (some ⟨ν.blk a.1, a.2, none⟩) len cap) ?_ (hx ▸ rs)
          have hfr0 : (Builtin.firstCells p.2 0 (ρ x)).run P w = .ok ([] : List Value).toArray w := by
            have h1 := n6 w rfl
            cases hv : ρ x <;> rw [hv] at h1 <;> simp [Builtin.firstCells] at h1 ⊢
            all_goals first
              | done
              | (split at h1 <;> simp_all)
          have := run_app_room (P := P) (w := w) (ty := T.type) hud hni hu hs (base := some ⟨ν.blk a.1, a.2, none⟩) (len := len) (n := 0) (cap := cap) (n5 w) hfr0 (by omega) (w' := w) (by simp [storeCells])
          simp [builtin, hx, this]
        · simp at e
      | false =>
      rw [hz] at e
      simp only [cond_false] at e
      simp only [apB] at e
      cases h1 : Nat.beq p.2 1 with
      | false => rw [h1] at e; simp [tagO] at e
      | true =>
        rw [h1] at e
        simp only [cond_true] at e
        have h1 := Nat.eq_of_beq_eq_true h1
        cases hap : apU p.1 (limOf i.bytes) h lo hi' (untag sa) with
        | none => rw [hap] at e; simp [tagO] at e
        | some out1 =>
          rw [hap] at e
          have rl := ok_appU (P := P) (ty := T.type) hud hni hu (h1 ▸ hs) hi hvz k3 (by omega) I (untag_rel rs) (untag_rel rx) hsr hap
          have hgoal : ∀ bs, (builtin .append #[t, u] T.type bs (#[s, x].map ρ)).run P w = (do pure (.value (← Builtin.append_ #[t, u] T.type #[ρ s, ρ x])) : Sem Next).run P w := fun bs => by simp [builtin]
          rw [hgoal]
          cases htg : tagA xa sa with
          | none => rw [htg] at e; simp only [tagO, Option.some.injEq] at e; subst e; exact rl.res
          | some tg =>
            obtain ⟨q, lo', hi'', h', w', ν', o, L, n, cap, rfl, hr, st, hh, a1, a2, a3, a4, a5, ⟨bb, cc, hvs⟩, hln⟩ := rl
            rw [htg] at e
            simp only [tagO, Option.some.injEq] at e
            subst e
            have hext : ∀ j, ν.has h.next j → ν'.len j = ν.len j := fun j hj => (st.ext j hj).2.2.2.2.2
            have fact : ν.has h.next tg.1 ∧ ν.len tg.1 + tg.2 ≤ L + n := by
              unfold tagA at htg
              split at htg
              · rename_i i a b ba len k ex
                simp only [Option.some.injEq] at htg
                subst htg
                obtain ⟨hi1, rr⟩ := rx
                have hn : n = ν.len i := by
                  rcases rr with ⟨_, q1, hx⟩ | ⟨o', cap', cs', el', fz', hx, _⟩
                  · rw [hx] at hln; simp [Builtin.lenOf] at hln; omega
                  · rw [hx] at hln; simp [Builtin.lenOf] at hln; omega
                have hL : L = len := by
                  cases ba with
                  | none => obtain ⟨_, hx⟩ := rs; rw [hvs] at hx; injection hx with _ e2 _
                  | some ba => obtain ⟨_, _, hx, _⟩ := rs; rw [hvs] at hx; injection hx with _ e2 _
                exact ⟨hi1, by simp only; omega⟩
              · rename_i bx nx kx exx q2 a2 b2 i c2
                simp only [Option.some.injEq] at htg
                subst htg
                obtain ⟨hi1, _, o', len', cap', hx, _, _, _, _, _, hge⟩ := rs
                rw [hvs] at hx
                injection hx with _ e2 _
                have hn : n = nx := by
                  cases bx with
                  | none => obtain ⟨_, hx⟩ := rx; rw [hx] at hln; simp [Builtin.lenOf] at hln; omega
                  | some bx => obtain ⟨_, _, hx, _⟩ := rx; rw [hx] at hln; simp [Builtin.lenOf] at hln; omega
                exact ⟨hi1, by simp only; omega⟩
              · simp at htg
            exact ⟨_, w', ν', hr, st, st.ext.has st.next fact.1, hh, o, L + n, cap, rfl, a1, a2, a3, a4, a5, by rw [hext _ fact.1]; exact fact.2⟩
  | false =>
  rw [hU] at e
  simp only [cond_false] at e
  unfold appendK at e
  split at e
  · rename_i base len cap ex
    unfold apLen at e
    cases hl : lenE xa with
    | none => simp [hl] at e
    | some n =>
      simp only [hl] at e
      have hlen := lenE_run (P := P) (w := w) rx hl
      unfold apGo at e
      cases hf : firstE h n p.2 xa with
      | none => simp [hf] at e
      | some new =>
        simp only [hf] at e
        obtain ⟨h1, e⟩ := cond_opt e
        obtain ⟨us, ru, hfr, hun⟩ := firstE_run (P := P) I rx hf
        have Id : Inv P ν h w.drew := I.same rfl
        have hlu := relL_len ru
        cases hroom : Nat.ble (len + n) cap with
        | true =>
          simp only [hroom, cond_true] at e
          have hroom := Nat.le_of_ble_eq_true hroom
          unfold apRoom at e
          cases base with
          | none =>
            simp only at e
            obtain ⟨_, e⟩ := cond_none e
            simp only [Option.some.injEq] at e
            subst e
            obtain ⟨hex, hx⟩ := rs
            refine Res.val I (u := .slice none (len + n) cap) ?_ ⟨hex, rfl⟩
            have := run_app_room (P := P) (w := w) (ty := T.type) hud hni hu hs (base := none) hlen hfr hroom (w' := w) rfl
            simp [builtin, hx, this]
          | some a =>
            simp only at e
            obtain ⟨hel, e⟩ := cond_opt e
            cases hst : storeN h a.1 (a.2 + len * p.2) new (!ex && Nat.beq a.2 0) with
            | none => simp [hst, apIn] at e
            | some h' =>
              simp only [hst, apIn, Option.some.injEq] at e
              subst e
              obtain ⟨hlt, cap', hx, hex, hop⟩ := rs
              have hcc : cap ≤ cap' := by
                cases ex with
                | true => rw [hex rfl]; exact Nat.le_refl _
                | false => exact (hop rfl).1
              have hbey : (!ex && Nat.beq a.2 0) = true → (a.2 + len * p.2) + new.length ≤ ν.cap a.1 := by
                intro q
                simp only [Bool.and_eq_true, Bool.not_eq_true'] at q
                have hq0 := Nat.eq_of_beq_eq_true q.2
                obtain ⟨g1, g2⟩ := hop q.1
                have hes := esz_of (P := P) I hs (by simpa [q.1] using hel)
                have g3 := g2 hq0
                rw [hes] at g3
                have : (len + n) * p.2 ≤ cap' * p.2 := Nat.mul_le_mul_right _ (by omega)
                rw [Nat.add_mul] at this
                omega
              obtain ⟨w', hr, st⟩ := storeN_run (P := P) I ru hbey hst
              have hnext := (storeN_one hst).2
              have := run_app_room (P := P) (w := w) (ty := T.type) hud hni hu hs (base := some ⟨ν.blk a.1, a.2, none⟩) (len := len) (n := n) (cap := cap') hlen hfr (by omega) (w' := w') (by simp only [addr_add]; exact hr)
              refine ⟨.slice (some ⟨ν.blk a.1, a.2, none⟩) (len + n) cap', w', ν, ?_, st, ?_⟩
              · simp [builtin, hx, this]
              · rw [hnext]; exact ⟨hlt, cap', rfl, hex, hop⟩
        | false =>
          simp only [hroom, cond_false] at e
          obtain ⟨hbig, e⟩ := cond_opt e
          have hbig := Nat.le_of_ble_eq_true hbig
          have hroom : cap < len + n := by
            rcases Nat.lt_or_ge cap (len + n) with q | q
            · exact q
            · rw [Nat.ble_eq_true_of_le q] at hroom; cases hroom
          unfold apNew at e
          cases hfo : firstE h len p.2 (.slice base len cap ex) with
          | none => simp [hfo] at e
          | some old =>
            simp only [hfo] at e
            obtain ⟨os, ro, hfor, hon⟩ := firstE_run (P := P) Id rs hfo
            obtain ⟨us', ru', hfr', hun'⟩ := firstE_run (P := P) Id rx hf
            have hrel := relL_append ro ru'
            have hcells : ∀ m, ∀ (i : Nat) (v : Value), (os ++ us')[i]? = some v → (os.toArray ++ us'.toArray ++ Builtin.zeroCells vz.cells m)[i]? = some v := by
              intro m i v hv
              have hi : i < (os ++ us').length := (List.getElem?_eq_some_iff.1 hv).1
              rw [Array.getElem?_append_left (by simpa using hi)]
              simpa using hv
            have hsize : ∀ m, (os.toArray ++ us'.toArray ++ Builtin.zeroCells vz.cells m).size = (len + n + m) * p.2 := by
              intro m
              rw [Array.size_append, Array.size_append, zeroCells_size, hzs]
              simp only [List.size_toArray]
              rw [hon, hun', Nat.add_mul, Nat.add_mul]
            have hvx : ∃ base' cap', ρ s = .slice base' len cap' ∧ (ex = true → cap' = cap) ∧ (base = none → base' = none) := by
              cases base with
              | none => obtain ⟨_, hx⟩ := rs; exact ⟨none, cap, hx, fun _ => rfl, fun _ => rfl⟩
              | some a => obtain ⟨_, cap', hx, hex, _⟩ := rs; exact ⟨_, cap', hx, hex, fun q => by simp at q⟩
            have grow : ∀ {h0 : Heap} (st0 : Step P ν h w ν h0 w) (hn0 : h0.next = h.next) (st' : Bool) {base' : Option Addr} {cap' : Nat}, ρ s = .slice base' len cap' → cap' < len + n →
                Res P ν h w ((builtin .append #[t, u] T.type (#[s, x].map fun | .const _ => true | _ => false) (#[s, x].map ρ)).run P w) (.val (.slice (some (h0.next, 0)) (len + n) (len + n) false) (h0.new (.flat false p.1 st' (old ++ new)))) := by
              intro h0 st0 hn0 st' base' cap' hx hlt
              rw [hx] at hfor
              obtain ⟨nc, hnc, hrun⟩ := run_app_grow (P := P) (w := w) (ty := T.type) hud hni hu hs hi hvz k3 hlen hfr' hfor hlt (by unfold limOf; cases Nat.ble i.bytes 1 <;> simp <;> omega)
              have hrel0 : relL ν h0.next (old ++ new) (os ++ us') := by rw [hn0]; exact hrel
              obtain ⟨ν', st1, g1, g2, g3⟩ := new_open (P := P) st0.inv (e := p.1) hrel0 (hcells (nc - (len + n))) st' (w.drawn + 1)
              refine ⟨.slice (some ⟨w.heap.size, 0, none⟩) (len + n) nc, _, ν', ?_, st0.trans st1, st1.has_new, nc, by rw [g1], fun q => by simp at q, fun _ => ⟨hnc, fun _ => ?_⟩⟩
              · simp only [builtin, List.map_toArray, List.map_cons, List.map_nil, hx, Sem.run_bind, hrun, Result.andThen_ok, Sem.run_pure]
                rfl
              · simp only [g2, g3, hsize, cellsOf_sz hs]
                exact Nat.mul_le_mul_right _ (by omega)
            cases ex with
            | true =>
              simp only [cond_true, Option.some.injEq] at e
              subst e
              obtain ⟨base', cap', hx, hex, _⟩ := hvx
              exact grow (Step.refl I) rfl false hx (by rw [hex rfl]; exact hroom)
            | false =>
              simp only [cond_false] at e
              cases base with
              | none => simp at e
              | some ja =>
               obtain ⟨j, jo⟩ := ja
               cases jo with
               | succ jo => simp at e
               | zero =>
                simp only at e
                obtain ⟨hel, e⟩ := cond_some e
                subst e
                obtain ⟨hlt, cap', hx, _, hop⟩ := rs
                obtain ⟨g1, g2⟩ := hop rfl
                have g2 := g2 rfl
                by_cases hin : len + n ≤ cap'
                · have hes := esz_of (P := P) I hs hel
                  rw [hes] at g2
                  have hmul : (len + n) * p.2 ≤ cap' * p.2 := Nat.mul_le_mul_right _ hin
                  rw [Nat.add_mul] at hmul
                  obtain ⟨rl, sl0, hrl, hreal⟩ := loadN_rel I (show loadN h j 0 (len * p.2) = some old from hfo)
                  cases ho : h.obj j with
                  | flat ex' e' st' l' =>
                    obtain ⟨ob, hb, ro'⟩ := I.obj j (by rw [ho]; simp)
                    rw [ho] at ro'
                    obtain ⟨cs, fz, rfl, hc1, hc2, hc3, hc4, hc5, hc6, hc7⟩ := ro'
                    rw [ho] at hel
                    have he' : p.1 = e' := Nat.eq_of_beq_eq_true hel
                    subst he'
                    have hfit : len * p.2 + us.length ≤ cs.size := by simp only at g2; omega
                    have hst := run_storeCells_fz (P := P) (ν.blk j) (len * p.2) p.1 fz us 0 cs w hb hc6 (by omega) (allOne_rel ru h1)
                    rw [Nat.add_zero] at hst
                    have hrun := run_app_room (P := P) (w := w) (ty := T.type) hud hni hu hs (base := some ⟨ν.blk j, 0, none⟩) (len := len) (n := n) (cap := cap') hlen hfr hin (w' := w.setRow (ν.blk j) (cs.toList.take (len * p.2) ++ us ++ cs.toList.drop (len * p.2 + us.length)).toArray) (by simp only [addr_add, Nat.zero_add]; exact hst)
                    have hold : relL ν h.next old (cs.toList.take (len * p.2)) := by
                      refine relL_of_get ?_ ?_
                      · rw [rl]; simp; omega
                      · intro q a hq
                        obtain ⟨v, hv, hr2⟩ := relL_get hrl hq
                        have hcell := hreal q v hv
                        have hqlt : q < len * p.2 := by have := (List.getElem?_eq_some_iff.1 hq).1; omega
                        refine ⟨v, ?_, hr2⟩
                        rw [List.getElem?_take, if_pos hqlt]
                        simp only [World.cell?, hb, Nat.zero_add] at hcell
                        simpa using hcell
                    have hsz2 : (cs.toList.take (len * p.2) ++ us ++ cs.toList.drop (len * p.2 + us.length)).toArray.size = cs.size := splice_size hfit
                    have hag := V.upd_agree ν h.next (ν.blk j) cs.size p.2 h.next (Nat.le_refl _)
                    have st := Step.alias (P := P) (w' := w.setRow (ν.blk j) (cs.toList.take (len * p.2) ++ us ++ cs.toList.drop (len * p.2 + us.length)).toArray) I (j := j) (by rw [ho]; simp) (a := .flat false p.1 true (old ++ new)) cs.size p.2 (setRow_heap w _ _ _ _ _ hb)
                      ⟨_, fz, rfl, fun q a hq => by
                          obtain ⟨v, hv, hr2⟩ := relL_get (relL_append hold ru) hq
                          refine ⟨v, ?_, AV.rel_mono hag (by omega) a v hr2⟩
                          have hql := (List.getElem?_eq_some_iff.1 hv).1
                          rw [Nat.zero_add, List.getElem?_toArray, List.getElem?_append_left hql]
                          exact hv,
                        fun q => by simp at q, by rw [hsz2, List.length_append, rl, hlu]; omega, by rw [hsz2]; simp, by simp [cellsOf_sz hs], by rw [hsz2]; exact hc6, fun q => by simp at q⟩
                      (by simp) (fun k hk => setRow_other w _ _ _ hk) rfl rfl rfl
                    refine ⟨.slice (some ⟨ν.blk j, 0, none⟩) (len + n) cap', _, _, ?_, st, V.upd_has _ _ _ _ _ (by simp), cap', by simp, fun q => by simp at q, fun _ => ⟨hin, fun _ => ?_⟩⟩
                    · simp only [builtin, List.map_toArray, List.map_cons, List.map_nil, hx, Sem.run_bind, hrun, Result.andThen_ok, Sem.run_pure]
                    · simp only [V.upd_esz, V.upd_cap]
                      rw [hc4]; exact g2
                  | _ => rw [ho] at hel; simp [elemIs] at hel
                · exact grow (h0 := h.set j .dead) (Step.kill I j) rfl true hx (by omega)
  · simp at e

end Go.Ev
