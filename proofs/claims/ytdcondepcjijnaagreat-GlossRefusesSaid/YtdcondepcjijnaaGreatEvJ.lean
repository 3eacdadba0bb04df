/-
  THE EVALUATOR IS RIGHT, eighth text: slices, fields, elements, lookups, lengths.
-/
import Derived.Test.YtdcondepcjijnaaGreatEvI
namespace Go.Ev
open Go

variable {P : Program} {ν : V} {h : Heap} {w : World} {ρA : MO → AV} {ρ : Operand → Value} {c : Operand → MO}

def slOk (P : Program) (t : TypeId) : SlK → Prop
  | .arr n s => (∃ e, P.underlying t = some (.array n e) ∧ szOf P e = some s) ∨ (∃ q e, P.underlying t = some (.pointer q) ∧ P.underlying q = some (.array n e) ∧ szOf P e = some s)
  | .str => P.underlying t = some .string
  | .sl s => ∃ e, P.underlying t = some (.slice e) ∧ szOf P e = some s
  | .no => True
theorem slK_spec {t : TypeId} {k : SlK} (hk : slK P t = k) : slOk P t k := by
  unfold slK at hk
  split at hk
  · split at hk
    · subst hk; exact .inl ⟨_, by assumption, by assumption⟩
    · subst hk; trivial
  · subst hk; assumption
  · split at hk
    · subst hk; exact ⟨_, by assumption, by assumption⟩
    · subst hk; trivial
  · split at hk
    · split at hk
      · subst hk; exact .inr ⟨_, _, by assumption, by assumption, by assumption⟩
      · subst hk; trivial
    · subst hk; trivial
  · subst hk; trivial

theorem atLow_eq (b o l m s : Nat) : (if m = l then (⟨b, o, none⟩ : Addr) else (⟨b, o, none⟩ : Addr).add (l * s)) = ⟨b, atLow o l m s, none⟩ := by
  unfold atLow
  by_cases q : m = l
  · subst q
    have : Nat.beq m m = true := by rw [Nat.beq_eq]
    simp [this]
  · have : Nat.beq m l = false := by
      cases hb : Nat.beq m l with
      | true => exact absurd (Nat.eq_of_beq_eq_true hb) q
      | false => rfl
    simp [q, this, addr_add]

theorem sliceT_cases {k : SlK} {x : AV} {lo hi mx : Option AV} {v : AV} (h : sliceT k x lo hi mx = some v) :
    sliceE k x lo hi mx = some v ∨ ∃ q l u i c kk a b c', k = .sl 1 ∧ x = .sliceV q l u i c ∧ lo = none ∧ hi = some (.rngT kk (.ofNat a) (.ofNat b) i c') ∧ mx = none ∧ c' ≤ c ∧ v = .sliceU q a b := by
  unfold sliceT at h
  split at h
  · rename_i q l u i c kk a b i' c'
    obtain ⟨hb, rfl⟩ := cond_some h
    simp only [Bool.and_eq_true] at hb
    cases Nat.eq_of_beq_eq_true hb.1
    exact .inr ⟨q, l, u, i, c, kk, a, b, c', rfl, rfl, rfl, rfl, rfl, Nat.le_of_ble_eq_true hb.2, rfl⟩
  · exact .inl h

theorem ok_sl (t : TypeId) (x : Operand) (lo hi mx : Option Operand) : Sound P (.slice t x lo hi mx) (F_sl (slK P t) (c x) (lo.map c) (hi.map c) (mx.map c)) c := by
  intro ν h w ρA ρ T hT I R out e
  obtain ⟨v, hv, rfl⟩ := valE_some e
  simp only [Option.map_map] at hv
  have rx := R x
  have hR : ∀ y, ((ρA ∘ c) y).rel ν h.next (ρ y) := R
  have key : ∃ u, (Instr.sliceAt t (ρ x) (lo.map ρ) (hi.map ρ) (mx.map ρ)).run P w = .ok u w ∧ v.rel ν h.next u := by
    generalize hax : ρA (c x) = ax at hv rx
    generalize hvx : ρ x = vx at rx
    have sp := slK_spec (P := P) (t := t) rfl
    rcases sliceT_cases hv with hv0 | ⟨q, lo', hi', i, cc, kk, a, b, c', hk, rfl, hlo, hhi, hmx, hcc, rfl⟩
    rotate_left
    · rw [hk] at sp
      obtain ⟨el, g1, g2⟩ := sp
      obtain ⟨_, hhas, o, len, cap, rfl, r1, r2, r3, r4, r5, r6⟩ := rx
      have hlo' : lo = none := by cases lo with | none => rfl | some z => simp at hlo
      have hmx' : mx = none := by cases mx with | none => rfl | some z => simp at hmx
      obtain ⟨y, rfl⟩ : ∃ y, hi = some y := by cases hi with | none => simp at hhi | some y => exact ⟨y, rfl⟩
      subst hlo'; subst hmx'
      simp only [Option.map_some, Function.comp, Option.some.injEq] at hhi
      have ry := R y
      rw [hhi] at ry
      obtain ⟨_, m, hm, m1, m2, m3⟩ := ry
      obtain ⟨mn, rfl⟩ : ∃ mn : Nat, m = mn := ⟨m.toNat, by have : (0 : Int) ≤ Int.ofNat a := Int.natCast_nonneg a; omega⟩
      have m1' : a ≤ mn := Int.ofNat_le.1 m1
      have m2' : mn ≤ b := Int.ofNat_le.1 m2
      have m3' : mn ≤ ν.len i + c' := Int.ofNat_le.1 m3
      let Rr : Operand → AV := fun z => match ρ z with | .int k m => .int k m | _ => .any
      have hRr : ∀ z, (Rr z).rel ν h.next (ρ z) := fun z => by
        simp only [Rr]
        split
        · rename_i hz; rw [hz]; rfl
        · trivial
      have hb : boundsE len cap ((none : Option Operand).map Rr) ((some y).map Rr) ((none : Option Operand).map Rr) = some (0, mn, cap) := by
        have : Rr y = .int kk (.ofNat mn) := by simp only [Rr, hm]; rfl
        have e1 : Nat.ble mn cap = true := Nat.ble_eq_true_of_le (by omega)
        simp [boundsE, boundO, boundH, bounds2, bounds3, this, bound, e1]
      obtain ⟨hr, h4⟩ := boundsE_run (P := P) (w := w) hRr true (Nat.le_refl cap) hb
      simp only [Option.map_none, Option.map_some, Option.isNone_none, if_true] at hr
      refine ⟨.slice (some ⟨ν.blk q, o, none⟩) mn cap, ?_, hhas, o, mn, cap, rfl, m1', m2', by omega, by omega, r5⟩
      simp only [Option.map_none, Option.map_some, Instr.sliceAt, Sem.run_bind, run_underlying g1, Result.andThen_ok, Instr.slice, Sem.run_pure, hr, szOf_run g2]
      simp [addr_add]
    clear hv
    have hv := hv0
    clear hv0
    unfold sliceE at hv
    split at hv
    · rename_i k n s a hk
      rw [hk] at sp
      obtain ⟨hlt, rfl⟩ := rx
      cases hb : boundsE n n (lo.map (ρA ∘ c)) (hi.map (ρA ∘ c)) (mx.map (ρA ∘ c)) with
      | none => simp [hb, slArr] at hv
      | some q =>
        obtain ⟨l, u, m⟩ := q
        simp only [hb, slArr, Option.some.injEq] at hv
        subst hv
        obtain ⟨hr, h4⟩ := boundsE_run (P := P) (w := w) hR false (Nat.le_refl n) hb
        have hm : (if mx.isNone then n else m) = m := by cases mx with | none => simp [h4 rfl] | some z => rfl
        rw [hm] at hr
        refine ⟨.slice (some ⟨ν.blk a.1, atLow a.2 l m s, none⟩) (u - l) (m - l), ?_, ⟨hlt, m - l, rfl, fun _ => rfl, fun q => by simp at q⟩⟩
        rcases sp with ⟨el, g1, g2⟩ | ⟨q, el, g1, g2, g3⟩
        · simp only [Instr.sliceAt, Sem.run_bind, run_underlying g1, Result.andThen_ok, Instr.sureAddr, Sem.run_pure, hr, szOf_run g2, atLow_eq]
        · simp only [Instr.sliceAt, Sem.run_bind, run_underlying g1, Result.andThen_ok, Instr.slice, asAddr, Sem.run_pure, run_underlying g2, hr, szOf_run g3, atLow_eq]
    · rename_i k s hk
      rw [hk] at sp
      obtain ⟨b, rfl, rfl⟩ := rx
      cases mx with
      | some z => simp at hv
      | none =>
        simp only [Option.map_none] at hv
        have hsz : (b.data.toList.map UInt8.toNat).length = b.size := by simp
        rw [hsz] at hv
        cases hb : boundsE b.size b.size (lo.map (ρA ∘ c)) (hi.map (ρA ∘ c)) none with
        | none => simp [hb, slStr] at hv
        | some q =>
          obtain ⟨l, u, m⟩ := q
          simp only [hb, slStr, Option.some.injEq] at hv
          subst hv
          obtain ⟨hr, h4⟩ := boundsE_run (P := P) (w := w) (mx := none) hR false (Nat.le_refl b.size) hb
          refine ⟨.string (b.extract l u), ?_, ⟨_, rfl, ?_⟩⟩
          · simp only [Option.map_none] at hr
            simp only [Instr.sliceAt, Sem.run_bind, run_underlying sp, Result.andThen_ok, Instr.slice, Option.map_none, Option.isSome_none, Bool.false_eq_true, if_false, Sem.run_pure, hr]
          · rw [ByteArray.data_extract, Array.toList_extract, List.extract_eq_take_drop, List.map_take, List.map_drop, List.take_drop]
            by_cases q : l ≤ u
            · rw [show l + (u - l) = u by omega]
            · rw [List.drop_eq_nil_of_le (by simp; omega), List.drop_eq_nil_of_le (by simp; omega)]
    · rename_i k size a len cap ex hk
      rw [hk] at sp
      obtain ⟨el, g1, g2⟩ := sp
      have hsl : ∀ (ad : Option Addr) (cp l u m : Nat), (Instr.sliceBounds true len cp (lo.map ρ) (hi.map ρ) (mx.map ρ)).run P w = .ok (l, u, m) w →
          (Instr.sliceAt t (.slice ad len cp) (lo.map ρ) (hi.map ρ) (mx.map ρ)).run P w = .ok (.slice (if m = l then ad else ad.map (·.add (l * size))) (u - l) (m - l)) w := by
        intro ad cp l u m hr
        simp only [Instr.sliceAt, Sem.run_bind, run_underlying g1, Result.andThen_ok, Instr.slice, Sem.run_pure, hr, szOf_run g2]
      unfold slGo at hv
      split at hv
      · obtain ⟨_, rfl⟩ := rx
        cases hb : boundsE len cap (lo.map (ρA ∘ c)) (hi.map (ρA ∘ c)) (mx.map (ρA ∘ c)) with
        | none => simp [hb, slNil] at hv
        | some q =>
          obtain ⟨l, u, m⟩ := q
          simp only [hb, slNil, Option.some.injEq] at hv
          subst hv
          obtain ⟨hr, h4⟩ := boundsE_run (P := P) (w := w) hR true (Nat.le_refl cap) hb
          have hm : (if mx.isNone then cap else m) = m := by cases mx with | none => simp [h4 rfl] | some z => rfl
          rw [hm] at hr
          exact ⟨_, hsl none cap l u m hr, rfl, by simp⟩
      · rename_i a
        obtain ⟨hlt, cp, rfl, hex, _⟩ := rx
        cases hex rfl
        cases hb : boundsE len cap (lo.map (ρA ∘ c)) (hi.map (ρA ∘ c)) (mx.map (ρA ∘ c)) with
        | none => simp [hb, slArr] at hv
        | some q =>
          obtain ⟨l, u, m⟩ := q
          simp only [hb, slArr, Option.some.injEq] at hv
          subst hv
          obtain ⟨hr, h4⟩ := boundsE_run (P := P) (w := w) hR true (Nat.le_refl cap) hb
          have hm : (if mx.isNone then cap else m) = m := by cases mx with | none => simp [h4 rfl] | some z => rfl
          rw [hm] at hr
          refine ⟨_, hsl (some ⟨ν.blk a.1, a.2, none⟩) cap l u m hr, hlt, m - l, ?_, fun _ => rfl, fun q => by simp at q⟩
          have := atLow_eq (ν.blk a.1) a.2 l m size
          rw [← this]
          split <;> rfl
      · rename_i a z hz
        obtain ⟨hlt, cp, rfl, _, hop⟩ := rx
        obtain ⟨hcc, hop⟩ := hop rfl
        cases hb : boundsE len cap (lo.map (ρA ∘ c)) (hi.map (ρA ∘ c)) (mx.map (ρA ∘ c)) with
        | none => simp [hb, slArr] at hv
        | some q =>
          obtain ⟨l, u, m⟩ := q
          simp only [hb, slArr, Option.some.injEq] at hv
          subst hv
          obtain ⟨hr, h4⟩ := boundsE_run (P := P) (w := w) hR true hcc hb
          have hm : (if mx.isNone then cp else m) = m := by cases mx with | none => simp at hz | some z => rfl
          rw [hm] at hr
          refine ⟨_, hsl (some ⟨ν.blk a.1, a.2, none⟩) cp l u m hr, hlt, m - l, ?_, fun _ => rfl, fun q => by simp at q⟩
          have := atLow_eq (ν.blk a.1) a.2 l m size
          rw [← this]
          split <;> rfl
      · rename_i a hz
        have hmx : mx = none := by cases mx with | none => rfl | some z => simp at hz
        subst hmx
        obtain ⟨hlt, cp, rfl, _, hop⟩ := rx
        obtain ⟨hcc, hop0⟩ := hop rfl
        cases hb : boundsE len cap (lo.map (ρA ∘ c)) (hi.map (ρA ∘ c)) none with
        | none =>
          have hv' : slOpen a.1 a.2 size (boundsE len cap (lo.map (ρA ∘ c)) (hi.map (ρA ∘ c)) none) = some v := hv
          rw [hb] at hv'
          simp [slOpen] at hv'
        | some q =>
          obtain ⟨l, u, m⟩ := q
          have hv' : slOpen a.1 a.2 size (boundsE len cap (lo.map (ρA ∘ c)) (hi.map (ρA ∘ c)) none) = some v := hv
          rw [hb] at hv'
          clear hv
          have hv := hv'
          clear hv'
          simp only [slOpen] at hv
          obtain ⟨hr, h4⟩ := boundsE_run (P := P) (w := w) (mx := none) hR true hcc hb
          have h4 := h4 rfl
          subst h4
          simp only [Option.isNone_none, if_true] at hr
          have hr' := hsl (some ⟨ν.blk a.1, a.2, none⟩) cp l u cp hr
          cases hl : Nat.beq l 0 with
          | true =>
            have hl := Nat.eq_of_beq_eq_true hl
            subst hl
            simp only [Nat.beq_refl, cond_true, Option.some.injEq] at hv
            subst hv
            refine ⟨_, hr', hlt, cp, ?_, fun q => by simp at q, fun _ => ⟨hcc, hop0⟩⟩
            simp [addr_add]
          | false =>
            simp only [hl, cond_false] at hv
            obtain ⟨hb2, hv⟩ := cond_some hv
            have hb2 := Nat.le_of_ble_eq_true hb2
            subst hv
            refine ⟨_, hr', hlt, cp - l, ?_, fun q => by simp at q, fun _ => ⟨by show Nat.sub m l ≤ cp - l; have : Nat.sub m l = m - l := rfl; omega, fun q => ?_⟩⟩
            · rw [if_neg (by omega)]
              simp [addr_add]
            · have : a.2 = 0 := by simp at q; omega
              exact Nat.le_trans (Nat.mul_le_mul_right _ (Nat.sub_le cp l)) (hop0 this)
      · simp at hv
    · simp at hv
  obtain ⟨u, hr, x⟩ := key
  exact Res.val I (by simp [execOp, hT, hr]) x

theorem ok_fa (s : TypeId) (x : Operand) (f : Nat) {p : Nat × Nat × TypeId} (hp : fieldOf P s f = some p) (h0 : Nat.beq p.2.1 0 = false) : Sound P (.fieldAddr s x f) (F_fa p.1 (c x)) c := by
  intro ν h w ρA ρ T hT I R out e
  obtain ⟨v, hv, rfl⟩ := valE_some e
  have rx := R x
  unfold fieldOf at hp
  split at hp
  · rename_i fs hu
    cases hf : fs.toList[f]? with
    | none => simp [hf] at hp
    | some fd =>
      cases hs : szOf P fd.type with
      | none => simp [hf, hs] at hp
      | some n =>
        simp only [hf, hs, Option.some.injEq] at hp
        subst hp
        have hn : n ≠ 0 := Nat.ne_of_beq_eq_false h0
        cases hc : ρA (c x) with
        | ptr a =>
          cases a with
          | none => rw [hc] at hv; simp [faA] at hv
          | some a =>
            rw [hc] at hv rx
            simp only [faA, Option.some.injEq] at hv
            subst hv
            obtain ⟨hlt, hx⟩ := rx
            have hf' : fs[f]? = some fd := by simpa using hf
            refine Res.val I (u := .pointer (some ⟨ν.blk a.1, a.2 + fd.offset, none⟩)) ?_ ⟨hlt, rfl⟩
            simp [execOp, hT, hx, Instr.fieldAt, run_underlying hu, hf', Instr.sureAddr, fieldPlace, szOf_run hs, hn, addr_add]
        | _ => rw [hc] at hv; simp [faA] at hv
  · simp at hp

theorem part_run {t : TypeId} {o n : Nat} {cs : List AV} {vs : Array Value} (r : relL ν h.next cs vs.toList) (hs : szOf P t = some n) (hd : (P.underlying t).isSome = true) {v : AV}
    (hv : partA o n (isAggB P t) cs = some v) : ∃ u, (part t vs o).run P w = .ok u w ∧ v.rel ν h.next u := by
  have hag := isAgg_run hs w hd
  unfold partA at hv
  cases hb : isAggB P t with
  | true =>
    rw [hb] at hv
    simp only [cond_true, Option.some.injEq] at hv
    subst hv
    refine ⟨.agg (vs.extract o (o + n)), by simp [part, hag, hb, szOf_run hs], _, rfl, ?_⟩
    have := relL_take n (relL_drop o r)
    rw [Array.toList_extract]
    simpa [List.extract_eq_take_drop] using this
  | false =>
    rw [hb] at hv
    simp only [cond_false] at hv
    obtain ⟨u, hu, x⟩ := relL_get r hv
    have hu' : vs[o]? = some u := by simpa using hu
    exact ⟨u, by simp [part, hag, hb, hu'], x⟩

theorem ok_fld (s : TypeId) (x : Operand) (f : Nat) {p : Nat × Nat × TypeId} (hp : fieldOf P s f = some p) (hd : (P.underlying p.2.2).isSome = true) : Sound P (.field s x f) (F_fld p.1 p.2.1 (isAggB P p.2.2) (c x)) c := by
  intro ν h w ρA ρ T hT I R out e
  obtain ⟨v, hv, rfl⟩ := valE_some e
  have rx := R x
  unfold fieldOf at hp
  split at hp
  · rename_i fs hu
    cases hf : fs.toList[f]? with
    | none => simp [hf] at hp
    | some fd =>
      cases hs : szOf P fd.type with
      | none => simp [hf, hs] at hp
      | some n =>
        simp only [hf, hs, Option.some.injEq] at hp
        subst hp
        cases hc : ρA (c x) with
        | agg cs =>
          rw [hc] at hv rx
          obtain ⟨vs, hx, r⟩ := rx
          obtain ⟨u, hr, x⟩ := part_run (P := P) (w := w) r hs hd hv
          have hf' : fs[f]? = some fd := by simpa using hf
          refine Res.val I (u := u) ?_ x
          simp [execOp, hT, hx, Instr.field, run_underlying hu, hf', asAgg, hr]
        | _ => rw [hc] at hv; simp [fldA] at hv
  · simp at hp

theorem ok_ia (t : TypeId) (x i : Operand) {f : OpF} (hf : cmpIa P c t x i = some f) : Sound P (.indexAddr t x i) f c := by
  intro ν h w ρA ρ T hT I R out e
  have rx := R x
  have ri := R i
  unfold cmpIa at hf
  split at hf
  · rename_i el hu
    cases hs : szOf P el with
    | none => simp [hs] at hf
    | some s =>
      simp only [hs, Option.some.injEq] at hf
      subst hf
      obtain ⟨v, hv, rfl⟩ := valE_some e
      generalize hax : ρA (c x) = ax at hv rx
      generalize hai : ρA (c i) = ai at hv ri
      unfold iaA at hv
      split at hv
      · rename_i a len k ex kk n
        obtain ⟨hb, hv⟩ := cond_some hv
        have hb := Nat.le_of_ble_eq_true hb
        subst hv
        obtain ⟨hlt, k', hx, _⟩ := rx
        have hi : ρ i = _ := ri
        refine Res.val I (u := .pointer (some ⟨ν.blk a.1, a.2 + n * s, none⟩)) ?_ ⟨hlt, rfl⟩
        have h1 : n < len := by omega
        simp [execOp, hT, hx, hi, Instr.indexAt, asIntOf, run_underlying hu, szOf_run hs, h1, addr_add]
      · simp at hv
  · rename_i m el hu
    cases hs : szOf P el with
    | none => simp [hs] at hf
    | some s =>
      simp only [hs, Option.some.injEq] at hf
      subst hf
      obtain ⟨v, hv, rfl⟩ := valE_some e
      generalize hax : ρA (c x) = ax at hv rx
      generalize hai : ρA (c i) = ai at hv ri
      unfold iaB at hv
      split at hv
      · rename_i a kk n
        obtain ⟨hb, hv⟩ := cond_some hv
        have hb := Nat.le_of_ble_eq_true hb
        subst hv
        obtain ⟨hlt, hx⟩ := rx
        have hi : ρ i = _ := ri
        refine Res.val I (u := .pointer (some ⟨ν.blk a.1, a.2 + n * s, none⟩)) ?_ ⟨hlt, rfl⟩
        have h1 : n < m := by omega
        simp [execOp, hT, hx, hi, Instr.indexAt, asIntOf, run_underlying hu, szOf_run hs, h1, addr_add, Instr.sureAddr]
      · simp at hv
  · simp at hf

theorem ok_ix (t : TypeId) (x i : Operand) {f : OpF} (hf : cmpIx P c t x i = some f) : Sound P (.index t x i) f c := by
  intro ν h w ρA ρ T hT I R out e
  have rx := R x
  have ri := R i
  unfold cmpIx at hf
  split at hf
  · rename_i hu
    simp only [Option.some.injEq] at hf
    subst hf
    obtain ⟨v, hv, rfl⟩ := valE_some e
    generalize hax : ρA (c x) = ax at hv rx
    generalize hai : ρA (c i) = ai at hv ri
    unfold ixS at hv
    split at hv
    · rename_i s kk n
      obtain ⟨b, hx, rfl⟩ := rx
      have hi : ρ i = _ := ri
      cases hg : (b.data.toList.map UInt8.toNat)[n]? with
      | none => simp [hg, byteE] at hv
      | some q =>
        simp only [hg, byteE, Option.some.injEq] at hv
        subst hv
        simp only [List.getElem?_map, Option.map_eq_some_iff] at hg
        obtain ⟨u8, hg, rfl⟩ := hg
        have hb : b[n]? = some u8 := by
          have hlt : n < b.data.toList.length := (List.getElem?_eq_some_iff.1 hg).1
          have hlt' : n < b.size := by simpa using hlt
          rw [getElem?_pos b n hlt']
          have := (List.getElem?_eq_some_iff.1 hg).2
          simp only [Array.getElem_toList] at this
          rw [← this]; rfl
        refine Res.val I (u := .int .u8 u8.toNat) ?_ rfl
        simp [execOp, hT, hx, hi, Instr.index, asIntOf, run_underlying hu, hb]
    · simp at hv
  · rename_i m el hu
    split at hf
    · rename_i s d hs hd
      simp only [Option.some.injEq] at hf
      subst hf
      obtain ⟨v, hv, rfl⟩ := valE_some e
      generalize hax : ρA (c x) = ax at hv rx
      generalize hai : ρA (c i) = ai at hv ri
      unfold ixA at hv
      split at hv
      · rename_i cs kk n
        obtain ⟨hb, hv⟩ := cond_opt hv
        have hb := Nat.le_of_ble_eq_true hb
        obtain ⟨vs, hx, r⟩ := rx
        have hi : ρ i = _ := ri
        obtain ⟨u, hr, x⟩ := part_run (P := P) (w := w) r hs (by rw [hd]; rfl) hv
        refine Res.val I (u := u) ?_ x
        have h1 : n < m := by omega
        simp [execOp, hT, hx, hi, Instr.index, asIntOf, run_underlying hu, szOf_run hs, h1, hr]
      · simp at hv
    · simp at hf
  · simp at hf

theorem ok_ext (x : Operand) (i : Nat) : Sound P (.extract x i) (F_ext i (c x)) c := by
  intro ν h w ρA ρ T hT I R out e
  obtain ⟨v, hv, rfl⟩ := valE_some e
  have rx := R x
  cases hc : ρA (c x) with
  | tuple vs =>
    rw [hc] at hv rx
    obtain ⟨us, hx, r⟩ := rx
    obtain ⟨u, hu, x⟩ := relL_get r (show vs[i]? = some v from hv)
    have hu' : us[i]? = some u := by simpa using hu
    exact Res.val I (by simp [execOp, hT, hx, Instr.extract, hu']) x
  | _ => rw [hc] at hv; simp [extE] at hv

end Go.Ev
