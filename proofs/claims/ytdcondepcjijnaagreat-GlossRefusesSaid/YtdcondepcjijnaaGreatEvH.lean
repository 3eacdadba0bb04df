/-
  THE EVALUATOR IS RIGHT, sixth text: conversions, makers, slices, fields, elements, lookups.
-/
import Derived.Test.YtdcondepcjijnaaGreatEvG
namespace Go.Ev
open Go

variable {P : Program} {ν : V} {h : Heap} {w : World} {ρA : MO → AV} {ρ : Operand → Value} {c : Operand → MO}

/-! Conversions -/

theorem ofBytes_rel (n : Nat) (l : List UInt8) : relL ν n (ofBytes (l.map UInt8.toNat)) (l.map fun b => .int .u8 b.toNat) := by
  unfold ofBytes
  rw [List.map_map]
  exact relL_map _ _ l fun _ _ => rfl

theorem bytesOfAV_rel {n : Nat} : ∀ {l : List AV} {s : List Value} {bs : List Nat}, relL ν n l s → bytesOfAV l = some bs → ∃ b : List UInt8, b.map UInt8.toNat = bs ∧ s = b.map fun x => .int .u8 x.toNat
  | [], _, bs, r, e => by cases r; simp [bytesOfAV] at e; subst e; exact ⟨[], rfl, rfl⟩
  | .int .u8 (.ofNat m) :: l, _, bs, ⟨v, s, hs, r, rs⟩, e => by
    subst hs
    cases r
    simp only [bytesOfAV] at e
    cases hl : bytesOfAV l with
    | none => simp [hl] at e
    | some bs' =>
      simp only [hl] at e
      obtain ⟨h1, h2⟩ := cond_none e
      simp only [Option.some.injEq] at h2
      subst h2
      obtain ⟨b, hb, hs⟩ := bytesOfAV_rel rs hl
      have hm : m < 256 := by
        rcases Nat.lt_or_ge m 256 with q | q
        · exact q
        · rw [Nat.ble_eq_true_of_le q] at h1; cases h1
      have hm' : (UInt8.ofNat m).toNat = m := by simp [Nat.mod_eq_of_lt hm]
      refine ⟨UInt8.ofNat m :: b, by simp [hb, hm'], ?_⟩
      rw [List.map_cons, hs, hm']; rfl
  | .any :: _, _, _, _, e => by simp [bytesOfAV] at e
  | .bool _ :: _, _, _, _, e => by simp [bytesOfAV] at e
  | .top _ :: _, _, _, _, e => by simp [bytesOfAV] at e
  | .str _ :: _, _, _, _, e => by simp [bytesOfAV] at e
  | .ptr _ :: _, _, _, _, e => by simp [bytesOfAV] at e
  | .slice _ _ _ _ :: _, _, _, _, e => by simp [bytesOfAV] at e
  | .map _ :: _, _, _, _, e => by simp [bytesOfAV] at e
  | .func _ _ _ :: _, _, _, _, e => by simp [bytesOfAV] at e
  | .nilFunc :: _, _, _, _, e => by simp [bytesOfAV] at e
  | .nilIface :: _, _, _, _, e => by simp [bytesOfAV] at e
  | .agg _ :: _, _, _, _, e => by simp [bytesOfAV] at e
  | .tuple _ :: _, _, _, _, e => by simp [bytesOfAV] at e
  | .rng _ _ _ :: _, _, _, _, e => by simp [bytesOfAV] at e
  | .strU _ _ :: _, _, _, _, e => by simp [bytesOfAV] at e
  | .sliceU _ _ _ :: _, _, _, _, e => by simp [bytesOfAV] at e
  | .sliceF _ _ _ :: _, _, _, _, e => by simp [bytesOfAV] at e
  | .sliceT _ _ _ :: _, _, _, _, e => by simp [bytesOfAV] at e
  | .rngT _ _ _ _ _ :: _, _, _, _, e => by simp [bytesOfAV] at e
  | .sliceV _ _ _ _ _ :: _, _, _, _, e => by simp [bytesOfAV] at e
  | .int .u8 (.negSucc _) :: _, _, _, _, e => by simp [bytesOfAV] at e
  | .int .i8 _ :: _, _, _, _, e => by simp [bytesOfAV] at e
  | .int .i16 _ :: _, _, _, _, e => by simp [bytesOfAV] at e
  | .int .i32 _ :: _, _, _, _, e => by simp [bytesOfAV] at e
  | .int .i64 _ :: _, _, _, _, e => by simp [bytesOfAV] at e
  | .int .u16 _ :: _, _, _, _, e => by simp [bytesOfAV] at e
  | .int .u32 _ :: _, _, _, _, e => by simp [bytesOfAV] at e
  | .int .u64 _ :: _, _, _, _, e => by simp [bytesOfAV] at e

theorem freeze_block {b n : Nat} {cs : Array Value} {e : TypeId} {fz : Nat × Nat} (hb : w.heap[b]? = some (.cells cs e fz)) :
    (w.freeze ⟨b, n, none⟩ 1).heap = w.heap.setIfInBounds b (.cells cs e (if fz.1 == fz.2 then (n, n + 1) else (min fz.1 n, max fz.2 (n + 1)))) := by
  unfold World.freeze
  simp only [Nat.succ_ne_zero, if_false]
  obtain ⟨hlt, hv⟩ := Array.getElem?_eq_some_iff.1 hb
  apply Array.ext_getElem?
  intro k
  rw [Array.getElem?_modify, Array.getElem?_setIfInBounds]
  by_cases hk : b = k
  · subst hk
    rw [if_pos rfl, if_pos rfl, if_pos hlt, hb]
    rfl
  · rw [if_neg hk, if_neg hk]

/-- Marking a row as one that a string may share freezes only what is behind it. -/
theorem mark_flat (I : Inv P ν h w) {i : Nat} {ex : Bool} {e : TypeId} {st : Bool} {l : List AV} (ho : h.obj i = .flat ex e st l) (o : Nat) :
    ∃ w', (markStringish ⟨ν.blk i, o, none⟩).run P w = .ok () w' ∧ Step P ν h w ν (h.set i (.flat ex e true l)) w' := by
  obtain ⟨ob, hb, r⟩ := I.obj i (by rw [ho]; simp)
  rw [ho] at r
  obtain ⟨cs, fz, rfl, h1, h2, h3, h4, h5, h6, h7⟩ := r
  have hs : w.shape? (ν.blk i) = some (e, cs.size) := by simp [World.shape?, hb]
  refine ⟨w.freeze ⟨ν.blk i, cs.size, none⟩ 1, by simp [markStringish, hs], ?_⟩
  have hfz := freeze_block (n := cs.size) hb
  obtain ⟨hlt, hv⟩ := Array.getElem?_eq_some_iff.1 hb
  refine Step.set I (by rw [ho]; simp) (o := .cells cs e (if fz.1 == fz.2 then (cs.size, cs.size + 1) else (min fz.1 cs.size, max fz.2 (cs.size + 1)))) ?_ ⟨cs, _, rfl, h1, h2, h3, h4, h5, ?_, by simp⟩ (by rw [hfz]; simp) (fun k hk => by rw [hfz, Array.getElem?_setIfInBounds, if_neg (fun q => hk q.symm)]) (by unfold World.freeze; simp) (by unfold World.freeze; simp) (by unfold World.freeze; simp)
  · rw [hfz, Array.getElem?_setIfInBounds, if_pos rfl, if_pos hlt]
  · unfold thaw at *
    split
    · simp
    · rename_i hne
      have hne' : fz.1 ≠ fz.2 := by simpa using hne
      simp only
      omega

/-- Of a row that is already marked: what turns is its frozen range alone. -/
theorem mark_same (I : Inv P ν h w) {i : Nat} (ho : isMarked (h.obj i) = true) (o : Nat) :
    ∃ cs e fz fz', w.heap[ν.blk i]? = some (.cells cs e fz) ∧ thaw cs.size fz' ∧ (markStringish ⟨ν.blk i, o, none⟩).run P w = .ok () { w with heap := w.heap.setIfInBounds (ν.blk i) (.cells cs e fz') } := by
  cases ha : h.obj i with
  | flat ex e st l =>
    rw [ha] at ho
    cases st with
    | false => simp [isMarked] at ho
    | true =>
      obtain ⟨ob, hb, r⟩ := I.obj i (by rw [ha]; simp)
      rw [ha] at r
      obtain ⟨cs, fz, rfl, h1, h2, h3, h4, h5, h6, h7⟩ := r
      have hs : w.shape? (ν.blk i) = some (e, cs.size) := by simp [World.shape?, hb]
      refine ⟨cs, e, fz, if fz.1 == fz.2 then (cs.size, cs.size + 1) else (min fz.1 cs.size, max fz.2 (cs.size + 1)), hb, ?_, ?_⟩
      · unfold thaw at *
        split
        · simp
        · rename_i hne
          have hne' : fz.1 ≠ fz.2 := by simpa using hne
          simp only
          omega
      · have hfz := freeze_block (n := cs.size) hb
        have : w.freeze ⟨ν.blk i, cs.size, none⟩ 1 = { w with heap := w.heap.setIfInBounds (ν.blk i) (.cells cs e (if fz.1 == fz.2 then (cs.size, cs.size + 1) else (min fz.1 cs.size, max fz.2 (cs.size + 1)))) } := by
          have h1 : (w.freeze ⟨ν.blk i, cs.size, none⟩ 1).tape = w.tape := by unfold World.freeze; simp
          have h2 : (w.freeze ⟨ν.blk i, cs.size, none⟩ 1).drawn = w.drawn := by unfold World.freeze; simp
          have h3 : (w.freeze ⟨ν.blk i, cs.size, none⟩ 1).os = w.os := by unfold World.freeze; simp
          have h4 : (w.freeze ⟨ν.blk i, cs.size, none⟩ 1).output = w.output := by unfold World.freeze; simp
          generalize w.freeze ⟨ν.blk i, cs.size, none⟩ 1 = w1 at *
          cases w1
          simp only at hfz h1 h2 h3 h4
          subst hfz; subst h1; subst h2; subst h3; subst h4
          rfl
        rw [← this]
        simp [markStringish, hs]
  | _ => rw [ha] at ho; simp [isMarked] at ho

theorem mark_step (I : Inv P ν h w) {i : Nat} {h' : Heap} (hm : markO h i (h.obj i) = some h') {o : Nat} :
    ∃ w', (markStringish ⟨ν.blk i, o, none⟩).run P w = .ok () w' ∧ Step P ν h w ν h' w' := by
  cases ho : h.obj i with
  | flat ex e st l =>
    rw [ho] at hm
    simp only [markO, Option.some.injEq] at hm
    subst hm
    exact mark_flat I ho o
  | _ => rw [ho] at hm; simp [markO] at hm

/-- A row whose end is open. -/
theorem new_open (I : Inv P ν h w) {e : TypeId} {l : List AV} {s : List Value} {cs : Array Value} (r : relL ν h.next l s) (hc : ∀ (i : Nat) (v : Value), s[i]? = some v → cs[i]? = some v) (st : Bool) (d : Nat) :
    ∃ ν', Step P ν h w ν' (h.new (.flat false e st l)) { w with heap := w.heap.push (.cells cs e), drawn := d } ∧ ν'.blk h.next = w.heap.size ∧ ν'.cap h.next = cs.size ∧ ν'.esz h.next = P.cellsOf e := by
  refine ⟨ν.upd h.next w.heap.size cs.size (P.cellsOf e), Step.new I _ _ cs.size (P.cellsOf e) d ?_, by simp, by simp, by simp⟩
  have hl := relL_len r
  have hag := V.upd_agree ν h.next w.heap.size cs.size (P.cellsOf e) h.next (Nat.le_refl _)
  refine ⟨cs, (0, 0), rfl, ?_, fun q => by simp at q, ?_, by simp, by simp, .inl rfl, fun _ => rfl⟩
  · intro j a ha
    obtain ⟨u, hu, x⟩ := relL_get r ha
    exact ⟨u, by simpa using hc j u hu, AV.rel_mono hag (by omega) a u x⟩
  · rcases Nat.lt_or_ge cs.size l.length with q | q
    · obtain ⟨u, hu⟩ : ∃ u, s[cs.size]? = some u := ⟨_, List.getElem?_eq_getElem (by omega)⟩
      have := hc _ _ hu
      simp at this
    · exact q

def cvOk (P : Program) (s d : TypeId) : CvK → Prop
    | .int k => (∃ j, P.underlying s = some (.int j)) ∧ P.underlying d = some (.int k)
    | .same => P.underlying s = some .string ∧ P.underlying d = some .string
    | .s2b e => P.underlying s = some .string ∧ P.underlying d = some (.slice e) ∧ P.underlying e = some (.int .u8) ∧ szOf P e = some 1
    | .b2s => ∃ e, P.underlying s = some (.slice e) ∧ P.underlying d = some .string ∧ P.underlying e = some (.int .u8)
    | .sl => ∃ e e', P.underlying s = some (.slice e') ∧ P.underlying d = some (.slice e) ∧ P.underlying e = some (.int .u8) ∧ s = d
    | .no => True

theorem cvK_spec {s d : TypeId} {k : CvK} (hk : cvK P s d = k) : cvOk P s d k := by
  unfold cvK at hk
  split at hk
  · subst hk; exact ⟨⟨_, by assumption⟩, by assumption⟩
  · subst hk; exact ⟨by assumption, by assumption⟩
  · split at hk
    · subst hk; exact ⟨by assumption, by assumption, by assumption, by assumption⟩
    · subst hk; trivial
  · split at hk
    · subst hk; exact ⟨_, by assumption, by assumption, by assumption⟩
    · subst hk; trivial
  · split at hk
    · cases hq : Nat.beq s d with
      | true => rw [hq] at hk; simp only [cond_true] at hk; subst hk; exact ⟨_, _, by assumption, by assumption, by assumption, Nat.eq_of_beq_eq_true hq⟩
      | false => rw [hq] at hk; simp only [cond_false] at hk; subst hk; trivial
    · subst hk; trivial
  · subst hk; trivial

theorem b2s_fold : ∀ (l : List UInt8) (s : ByteArray), ((l.map fun x => ((x.toNat : Nat) : Int)).foldl (fun r n => r.push (UInt8.ofNat n.toNat)) s).data.toList = s.data.toList ++ l
  | [], s => by simp
  | b :: l, s => by rw [List.map_cons, List.foldl_cons, b2s_fold l]; simp [ByteArray.push]

theorem run_bytesToString_list (a : Addr) (len k : Nat) (b : List UInt8) (hc : (loadCells a len).run P w = .ok (b.map fun x => Value.int .u8 x.toNat).toArray w) :
    ∃ s : ByteArray, s.data.toList = b ∧ (Conv.bytesToString (.slice (some a) len k)).run P w = .ok (.string s) w := by
  have hns : (b.map fun x => Value.int .u8 x.toNat) = (b.map fun x => ((x.toNat : Nat) : Int)).map (Value.int .u8) := by rw [List.map_map]; rfl
  exact ⟨_, by rw [b2s_fold]; rfl, run_bytesToString (P := P) w a len k (b.map fun x => ((x.toNat : Nat) : Int)) (by rw [hc, hns])⟩

theorem run_stringToBytes (I : Inv P ν h w) {e : TypeId} (b : ByteArray) :
    ∃ cap w' ν', (Conv.stringToBytes e b).run P w = .ok (.slice (some ⟨ν'.blk h.next, 0, none⟩) b.size cap) w' ∧ Step P ν h w ν' (h.new (.flat false e true (ofBytes (b.data.toList.map UInt8.toNat)))) w' ∧ b.size ≤ cap ∧ ν'.cap h.next = cap ∧ ν'.esz h.next = P.cellsOf e := by
  let q : Question := .appendCap b.size 0 e
  let cap := q.cut (w.tape w.drawn q)
  have hcap : b.size ≤ cap := by simp [cap, q, Question.cut]
  let elems : Array Value := b.data.map fun x => .int .u8 x.toNat
  let cs : Array Value := elems ++ Array.replicate (cap - b.size) (.int .u8 0)
  have hes : elems.size = b.size := by simp [elems]
  have hsz : cs.size = cap := by simp [cs, hes]; omega
  obtain ⟨ν', st, h1, h2, h3⟩ := new_open (P := P) I (e := e) (ofBytes_rel h.next b.data.toList) (cs := cs) (fun i v hv => by
    have hi : i < elems.size := by
      have := (List.getElem?_eq_some_iff.1 hv).1
      simp at this; rw [hes]; exact this
    rw [show cs = elems ++ Array.replicate (cap - b.size) (.int .u8 0) from rfl, Array.getElem?_append_left hi]
    simpa [elems] using hv) true (w.drawn + 1)
  obtain ⟨w', hr, st'⟩ := mark_flat st.inv (i := h.next) (by rw [Heap.obj_new, if_pos rfl]) 0
  refine ⟨cap, w', ν', ?_, (st.trans st').congr (fun j => ?_) rfl, hcap, h2.trans hsz, h3⟩
  · rw [h1] at hr ⊢
    simp only [Conv.stringToBytes, Sem.run_bind, run_choose, show q.forced = false from rfl, Bool.false_eq_true, if_false, Result.andThen_ok, newRow, Sem.run_pure]
    simp only [Question.forced, Bool.false_eq_true, if_false, Result.andThen_ok, run_newObj, Sem.run_pure]
    have hr' := hr
    rw [show (markStringish ⟨w.heap.size, 0, none⟩).run P { w with heap := w.heap.push (.cells cs e), drawn := w.drawn + 1 } = .ok () w' from hr']
    rfl
  · rw [Heap.obj_set]
    split
    · rename_i q; rw [← q, Heap.obj_new, if_pos rfl]
    · rfl

/-- Marking a row of bytes. -/
theorem mark_bytes (I : Inv P ν h w) {i : Nat} {e : TypeId} (ho : h.obj i = .bytes e) (o : Nat) :
    ∃ w', (markStringish ⟨ν.blk i, o, none⟩).run P w = .ok () w' ∧ Step P ν h w ν (h.set i (.bytes e)) w' := by
  obtain ⟨ob, hb, r⟩ := I.obj i (by rw [ho]; simp)
  rw [ho] at r
  obtain ⟨cs, fz, rfl, h1, h2, h3, h6⟩ := r
  have hs : w.shape? (ν.blk i) = some (e, cs.size) := by simp [World.shape?, hb]
  refine ⟨w.freeze ⟨ν.blk i, cs.size, none⟩ 1, by simp [markStringish, hs], ?_⟩
  have hfz := freeze_block (n := cs.size) hb
  obtain ⟨hlt, hv⟩ := Array.getElem?_eq_some_iff.1 hb
  refine Step.set I (by rw [ho]; simp) (o := .cells cs e (if fz.1 == fz.2 then (cs.size, cs.size + 1) else (min fz.1 cs.size, max fz.2 (cs.size + 1)))) ?_ ⟨cs, _, rfl, h1, h2, h3, ?_⟩ (by rw [hfz]; simp) (fun k hk => by rw [hfz, Array.getElem?_setIfInBounds, if_neg (fun q => hk q.symm)]) (by unfold World.freeze; simp) (by unfold World.freeze; simp) (by unfold World.freeze; simp)
  · rw [hfz, Array.getElem?_setIfInBounds, if_pos rfl, if_pos hlt]
  · unfold thaw at *
    split
    · simp
    · rename_i hne
      have hne' : fz.1 ≠ fz.2 := by simpa using hne
      simp only
      omega

/-- A new row of bytes: of its first n we speak. -/
theorem new_bytes (I : Inv P ν h w) {e : TypeId} {cs : Array Value} {n : Nat} (hn : n ≤ cs.size) (hc : ∀ j, j < n → ∃ m, cs[j]? = some (.int .u8 m)) (d : Nat) :
    ∃ ν', Step P ν h w ν' (h.new (.bytes e)) { w with heap := w.heap.push (.cells cs e), drawn := d } ∧ ν'.blk h.next = w.heap.size ∧ ν'.cap h.next = n ∧ ν'.esz h.next = cs.size :=
  ⟨ν.upd h.next w.heap.size n cs.size, Step.new I _ _ n cs.size d ⟨cs, (0, 0), rfl, by simp, by simpa using hn, by simpa using hc, .inl rfl⟩, by simp, by simp, by simp⟩

theorem run_stringToBytesU (I : Inv P ν h w) {e : TypeId} (b : ByteArray) :
    ∃ cap w' ν', (Conv.stringToBytes e b).run P w = .ok (.slice (some ⟨ν'.blk h.next, 0, none⟩) b.size cap) w' ∧ Step P ν h w ν' (h.new (.bytes e)) w' ∧ b.size ≤ cap ∧ ν'.cap h.next = b.size ∧ ν'.esz h.next = cap := by
  let q : Question := .appendCap b.size 0 e
  let cap := q.cut (w.tape w.drawn q)
  have hcap : b.size ≤ cap := by simp [cap, q, Question.cut]
  let elems : Array Value := b.data.map fun x => .int .u8 x.toNat
  let cs : Array Value := elems ++ Array.replicate (cap - b.size) (.int .u8 0)
  have hes : elems.size = b.size := by simp [elems]
  have hsz : cs.size = cap := by simp [cs, hes]; omega
  obtain ⟨ν', st, h1, h2, h3⟩ := new_bytes (P := P) I (e := e) (cs := cs) (n := b.size) (by omega) (fun i hi => by
    rw [show cs = elems ++ Array.replicate (cap - b.size) (.int .u8 0) from rfl, Array.getElem?_append_left (by omega)]
    have hi' : i < b.data.size := hi
    exact ⟨b.data[i].toNat, by rw [show elems = b.data.map fun x => Value.int .u8 x.toNat from rfl, Array.getElem?_map, Array.getElem?_eq_getElem hi']; rfl⟩) (w.drawn + 1)
  obtain ⟨w', hr, st'⟩ := mark_bytes st.inv (i := h.next) (by rw [Heap.obj_new, if_pos rfl]) 0
  refine ⟨cap, w', ν', ?_, (st.trans st').congr (fun j => ?_) rfl, hcap, h2, h3.trans hsz⟩
  · rw [h1] at hr ⊢
    simp only [Conv.stringToBytes, Sem.run_bind, run_choose, show q.forced = false from rfl, Bool.false_eq_true, if_false, Result.andThen_ok, newRow, Sem.run_pure]
    simp only [Question.forced, Bool.false_eq_true, if_false, Result.andThen_ok, run_newObj, Sem.run_pure]
    have hr' := hr
    rw [show (markStringish ⟨w.heap.size, 0, none⟩).run P { w with heap := w.heap.push (.cells cs e), drawn := w.drawn + 1 } = .ok () w' from hr']
    rfl
  · rw [Heap.obj_set]
    split
    · rename_i q; rw [← q, Heap.obj_new, if_pos rfl]
    · rfl

set_option linter.unusedSimpArgs false in
theorem ok_convE (I : Inv P ν h w) {s d : TypeId} {x : AV} {vx : Value} (rx : x.rel ν h.next vx) {out : Out} (e : convE h (cvK P s d) x = some out) :
    ∃ r : Result Value, (convert s d vx).run P w = r ∧ ∀ R : Result Next, (R = r.andThen fun u w' => .ok (.value u) w') → Res P ν h w R out := by
  have sp := cvK_spec (P := P) (s := s) (d := d) rfl
  refine ⟨_, rfl, ?_⟩
  rintro R rfl
  cases hk : cvK P s d <;> rw [hk] at e sp <;> cases x <;> simp only [convE, reduceCtorEq, Option.some.injEq] at e
  case int.int k k' n =>
    subst e
    cases rx
    obtain ⟨⟨j, h1⟩, h2⟩ := sp
    exact Res.val I (by simp [convert, run_underlying h1, run_underlying h2, Conv.intToInt]; rfl) (by rw [wrapE_eq]; rfl)
  case int.top k k' =>
    subst e
    obtain ⟨n, rfl⟩ := rx
    obtain ⟨⟨j, h1⟩, h2⟩ := sp
    exact Res.val I (by simp [convert, run_underlying h1, run_underlying h2, Conv.intToInt]; rfl) ⟨_, rfl⟩
  case int.rng k k' lo hi =>
    subst e
    obtain ⟨n, rfl, n1, n2⟩ := rx
    obtain ⟨⟨j, h1⟩, h2⟩ := sp
    exact Res.val (u := .int k (k.wrap n)) I (by simp [convert, run_underlying h1, run_underlying h2, Conv.intToInt]) (rngE_rel n1 n2)
  case same.strU lo hi =>
    subst e
    obtain ⟨b, rfl, hb⟩ := rx
    exact Res.val I (by simp [convert, run_underlying sp.1, run_underlying sp.2]) ⟨b, rfl, hb⟩
  case s2b.strU el lo hi =>
    subst e
    obtain ⟨b, rfl, b1, b2⟩ := rx
    obtain ⟨h1, h2, h3, h4⟩ := sp
    obtain ⟨cap, w', ν', hr, st, g1, g2, g3⟩ := run_stringToBytesU (P := P) I (e := el) b
    refine ⟨.slice (some ⟨ν'.blk h.next, 0, none⟩) b.size cap, w', ν', ?_, st, st.has_new, 0, b.size, cap, rfl, b1, b2, g1, by omega, by omega⟩
    simp [convert, run_underlying h1, run_underlying h2, run_underlying h3, hr]
  case same.str t =>
    subst e
    obtain ⟨b, rfl, hb⟩ := rx
    exact Res.val I (by simp [convert, run_underlying sp.1, run_underlying sp.2]) ⟨b, rfl, hb⟩
  case s2b.str el t =>
    subst e
    obtain ⟨b, rfl, hb⟩ := rx
    obtain ⟨h1, h2, h3, h4⟩ := sp
    obtain ⟨cap, w', ν', hr, st, g1, g2, g3⟩ := run_stringToBytes (P := P) I (e := el) b
    rw [hb] at st
    refine ⟨.slice (some ⟨ν'.blk h.next, 0, none⟩) b.size cap, w', ν', ?_, st, ?_⟩
    · simp [convert, run_underlying h1, run_underlying h2, run_underlying h3, hr]
    · have hlen : t.length = b.size := by rw [← hb]; simp
      rw [hlen]
      refine ⟨st.has_new, cap, rfl, fun q => by simp at q, fun _ => ⟨g1, fun _ => ?_⟩⟩
      simp only [g2, g3, cellsOf_sz h4]; omega
  case b2s.slice a n k ex =>
    obtain ⟨el, h1, h2, h3⟩ := sp
    cases a with
    | none =>
      simp only [convE, Option.some.injEq] at e
      subst e
      obtain ⟨_, rfl⟩ := rx
      exact Res.val I (by simp [convert, run_underlying h1, run_underlying h2, run_underlying h3, Conv.bytesToString]; rfl) ⟨_, rfl, rfl⟩
    | some a =>
      simp only [convE] at e
      obtain ⟨v, hv, rfl⟩ := valE_some e
      obtain ⟨_, k', rfl, _⟩ := rx
      cases hl : loadN h a.1 a.2 n with
      | none => simp [hl, bytesBind, strE] at hv
      | some l =>
        simp only [hl, bytesBind] at hv
        cases hbs : bytesOfAV l with
        | none => simp [hbs, strE] at hv
        | some bs =>
          simp only [hbs, strE, Option.some.injEq] at hv
          subst hv
          obtain ⟨s', r, hn, hrun⟩ := loadN_run (P := P) I hl
          obtain ⟨b, rfl, rfl⟩ := bytesOfAV_rel r hbs
          obtain ⟨sb, hsb, hr⟩ := run_bytesToString_list (P := P) (w := w) ⟨ν.blk a.1, a.2, none⟩ n k' b hrun
          exact Res.val I (by simp [convert, run_underlying h1, run_underlying h2, run_underlying h3, hr]) ⟨sb, rfl, by rw [hsb]⟩
  case sl.slice a n k ex =>
    obtain ⟨el, el', h1, h2, h3, rfl⟩ := sp
    have hel : el' = el := by rw [h1] at h2; simpa using h2
    subst hel
    cases a with
    | none => simp [convE] at e
    | some a =>
      simp only [convE] at e
      cases hm : markO h a.1 (h.obj a.1) with
      | none => simp [hm, cvSS] at e
      | some h' =>
        simp only [hm, cvSS, Option.some.injEq] at e
        subst e
        obtain ⟨w', hr, st⟩ := mark_step (P := P) I hm (o := a.2)
        obtain ⟨hlt, k', rfl, y⟩ := rx
        have hnext : h'.next = h.next := by
          cases ho : h.obj a.1 <;> rw [ho] at hm <;> simp [markO] at hm
          rw [← hm]; rfl
        refine ⟨.slice (some ⟨ν.blk a.1, a.2, none⟩) n k', w', ν, ?_, st, ?_⟩
        · simp [convert, run_underlying h1, run_underlying h2, run_underlying h3, hr]
        · rw [hnext]; exact ⟨hlt, k', rfl, y⟩

end Go.Ev
