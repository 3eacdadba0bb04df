/-
  THE EVALUATOR IS RIGHT, ninth text: maps, lengths, calls.
-/
import Derived.Test.YtdcondepcjijnaaGreatEvJ
namespace Go.Ev
open Go

variable {P : Program} {ν : V} {h : Heap} {w : World} {ρA : MO → AV} {ρ : Operand → Value} {c : Operand → MO}

/-! Keys -/

def kyOk (P : Program) (t : TypeId) : KyK → Prop
  | .int => ∃ k, P.underlying t = some (.int k)
  | .str => P.underlying t = some .string
  | .no => True
theorem kyK_spec {t : TypeId} {k : KyK} (hk : kyK P t = k) : kyOk P t k := by
  unfold kyK at hk
  split at hk
  · subst hk; exact ⟨_, by assumption⟩
  · subst hk; assumption
  · subst hk; trivial

theorem ba_beq (a b : ByteArray) : (a == b) = (a.data.toList == b.data.toList) := by rw [beq_toListBytes, baToList, baToList]
theorem ba_eq {a b : ByteArray} (h : (a == b) = true) : a = b := by
  rw [ba_beq, beq_iff_eq] at h
  cases a; cases b
  simpa using h

/-- What a key of that kind finds. -/
theorem find_rel {n : Nat} {t : TypeId} {k : AV} {vk : Value} (rk : k.rel ν n vk) (hk : keyOk (kyK P t) k = true) : ∃ d, P.underlying t = some d ∧ (∀ b (w : World), (Instr.checkKey b 10000 t vk).run P w = .ok () w) ∧
    ∀ (es : List (AV × AV × Nat)) (l : List MapEntry) (i : Nat) (r : Option (Nat × AV)), entRel ν n es l → findE k es i = some r →
      match r with
      | none => Instr.findNow d vk l i = some none
      | some p => ∃ u, Instr.findNow d vk l i = some (some (p.1, u)) ∧ p.2.rel ν n u ∧ ∃ e, l[p.1 - i]? = some e ∧ i ≤ p.1 ∧ Instr.sameBits 10000 e.key vk = true := by
  have sp := kyK_spec (P := P) (t := t) rfl
  unfold keyOk at hk
  split at hk
  · rename_i q k' x hq
    rw [hq] at sp
    obtain ⟨kk, hu⟩ := sp
    have hvk : vk = .int k' x := rk
    subst hvk
    refine ⟨_, hu, fun b w => ?_, ?_⟩
    · rw [show (10000 : Nat) = 9999 + 1 from rfl, Instr.checkKey]
      simp [run_underlying hu]
    · intro es
      induction es with
      | nil =>
        intro l i r re hf
        cases re
        simp only [findE, Option.some.injEq] at hf
        subst hf
        rfl
      | cons en es ih =>
        intro l i r re hf
        obtain ⟨e, s, rfl, r1, r2, r3, r4⟩ := re
        obtain ⟨ka, va, b⟩ := en
        cases ka <;> simp only [findE, reduceCtorEq] at hf
        rename_i k2 y
        have hek : e.key = .int k2 y := r1
        obtain ⟨hkk, hf'⟩ := cond_opt hf
        clear hf
        have hf := hf'
        clear hf'
        have hkk := kEq_eq hkk
        subst hkk
        cases hxy : eqI x y with
        | true =>
          rw [hxy] at hf
          simp only [cond_true, Option.some.injEq] at hf
          subst hf
          rw [eqI_eq] at hxy
          refine ⟨e.val, ?_, r2, e, by simp, Nat.le_refl _, ?_⟩
          · simp [Instr.findNow, Instr.sameNow, hek, hxy]
          · have hxy' : x = y := by simpa using hxy
            rw [hek, hxy']
            simp [Instr.sameBits]
        | false =>
          rw [hxy] at hf
          simp only [cond_false] at hf
          rw [eqI_eq] at hxy
          have := ih s (i + 1) r r4 hf
          have hstep : Instr.findNow (.int kk) (.int k' x) (e :: s) i = Instr.findNow (.int kk) (.int k' x) s (i + 1) := by
            simp [Instr.findNow, Instr.sameNow, hek, hxy]
          cases r with
          | none => rw [hstep]; exact this
          | some p =>
            obtain ⟨u, g1, g2, e', g3, g4, g5⟩ := this
            refine ⟨u, by rw [hstep]; exact g1, g2, e', ?_, by omega, g5⟩
            rw [show p.1 - i = (p.1 - (i + 1)) + 1 by omega, List.getElem?_cons_succ]
            exact g3
  · rename_i q x hq
    rw [hq] at sp
    have hu : P.underlying t = some .string := sp
    obtain ⟨bx, rfl, hbx⟩ := rk
    refine ⟨_, hu, fun b w => ?_, ?_⟩
    · rw [show (10000 : Nat) = 9999 + 1 from rfl, Instr.checkKey]
      simp [run_underlying hu]
    · intro es
      induction es with
      | nil =>
        intro l i r re hf
        cases re
        simp only [findE, Option.some.injEq] at hf
        subst hf
        rfl
      | cons en es ih =>
        intro l i r re hf
        obtain ⟨e, s, rfl, r1, r2, r3, r4⟩ := re
        obtain ⟨ka, va, b⟩ := en
        cases ka <;> simp only [findE, reduceCtorEq] at hf
        rename_i y
        obtain ⟨by', hek, hby⟩ := r1
        have hxy2 : eqL x y = (bx == by') := by rw [← hbx, ← hby, eqL_eq, ba_beq]
        cases hxy : eqL x y with
        | true =>
          rw [hxy] at hf
          simp only [cond_true, Option.some.injEq] at hf
          subst hf
          rw [hxy2] at hxy
          refine ⟨e.val, ?_, r2, e, by simp, Nat.le_refl _, ?_⟩
          · simp [Instr.findNow, Instr.sameNow, hek, hxy]
          · have hxy' : bx = by' := ba_eq hxy
            rw [hek, hxy']
            simp [Instr.sameBits, ba_beq]
        | false =>
          rw [hxy] at hf
          simp only [cond_false] at hf
          rw [hxy2] at hxy
          have := ih s (i + 1) r r4 hf
          have hstep : Instr.findNow .string (.string bx) (e :: s) i = Instr.findNow .string (.string bx) s (i + 1) := by
            simp [Instr.findNow, Instr.sameNow, hek, hxy]
          cases r with
          | none => rw [hstep]; exact this
          | some p =>
            obtain ⟨u, g1, g2, e', g3, g4, g5⟩ := this
            refine ⟨u, by rw [hstep]; exact g1, g2, e', ?_, by omega, g5⟩
            rw [show p.1 - i = (p.1 - (i + 1)) + 1 by omega, List.getElem?_cons_succ]
            exact g3
  · simp at hk

theorem map_obj (I : Inv P ν h w) {r : Nat} {es : List (AV × AV × Nat)} {k : Nat} (ho : h.obj r = .map es k) : ∃ l : Array MapEntry, w.heap[ν.blk r]? = some (.map l k) ∧ entRel ν h.next es l.toList := by
  obtain ⟨o, hb, x⟩ := I.obj r (by rw [ho]; simp)
  rw [ho] at x
  obtain ⟨l, rfl, y⟩ := x
  exact ⟨l, hb, y⟩
theorem getObj_map {r k : Nat} {l : Array MapEntry} (hb : w.heap[r]? = some (.map l k)) : (getObj r).run P w = .ok (.map l k) w := by
  simp only [getObj, Sem.run, hb]

theorem entries_run (I : Inv P ν h w) {x : AV} {vx : Value} (rx : x.rel ν h.next vx) {es : List (AV × AV × Nat)} (he : entriesE h x = some es) :
    (vx = .map none ∧ es = []) ∨ ∃ r k l, vx = .map (some r) ∧ w.heap[r]? = some (.map l k) ∧ entRel ν h.next es l.toList := by
  cases x <;> simp only [entriesE, reduceCtorEq] at he
  rename_i r
  cases r with
  | none => simp only [entriesE, Option.some.injEq] at he; exact .inl ⟨rx, he.symm⟩
  | some r =>
    simp only [entriesE] at he
    cases ho : h.obj r <;> simp only [ho, esOf, reduceCtorEq, Option.some.injEq] at he
    rename_i es' k
    subst he
    obtain ⟨l, hb, y⟩ := map_obj I ho
    exact .inr ⟨_, k, l, rx.2, hb, y⟩

theorem ok_lk (t kt el : TypeId) (x k : Operand) (ok : Bool) (hu : P.underlying t = some (.map kt el)) {z : AV} (hz : zeroOf P el = some z) : SoundR P (.lookup t x k ok) (F_lk (kyK P kt) z (c x) (c k) ok) c := by
  intro ν h w ρA ρ T hT I R out e
  obtain ⟨hk, e⟩ := cond_opt e
  obtain ⟨v, hv, rfl⟩ := valE_some e
  obtain ⟨i, vz, hi, hvz, rfl⟩ := zeroOf_info hz
  obtain ⟨d, hd, hck, hfind⟩ := find_rel (P := P) (R k) hk
  cases he : entriesE h (ρA (c x)) with
  | none => simp [he, lk2] at hv
  | some es =>
    simp only [he, lk2] at hv
    cases hf : findE (ρA (c k)) es 0 with
    | none => simp [hf, lkE] at hv
    | some r =>
      have hzero : (zeroValue el).run P w = .ok vz w := by simp [zeroValue, typeInfo, hi, hvz]
      have key : ∀ l : List MapEntry, entRel ν h.next es l → ∃ r' : Option (Nat × Value), (Instr.findKey kt (ρ k) l).run P w = .ok r' w ∧
          (match r' with | none => v = okE ok false (ofValue vz) | some p => ∃ a : AV, v = okE ok true a ∧ a.rel ν h.next p.2) := by
        intro l hl
        have := hfind es l 0 r hl hf
        cases r with
        | none =>
          simp only at this
          simp only [hf, lkE, Option.some.injEq] at hv
          exact ⟨none, by simp [Instr.findKey, run_underlying hd, this], hv.symm⟩
        | some p =>
          obtain ⟨u, g1, g2, -⟩ := this
          simp only [hf, lkE, Option.some.injEq] at hv
          exact ⟨some (p.1, u), by simp [Instr.findKey, run_underlying hd, g1], p.2, hv.symm, g2⟩
      have fin : ∃ u, (Instr.lookup t (ρ x) (ρ k) ok).run P w = .ok u w ∧ v.rel ν h.next u := by
        rcases entries_run I (R x) he with ⟨hx, rfl⟩ | ⟨r', kk, l, hx, hb, hl⟩
        · obtain ⟨r', g1, g2⟩ := key [] rfl
          cases r' with
          | none =>
            refine ⟨if ok then .tuple #[vz, .bool false] else vz, by simp [Instr.lookup, run_underlying hu, hx, hck, g1, hzero], ?_⟩
            rw [g2]
            cases ok with
            | false => exact rel_ofValue h.next vz
            | true => exact ⟨_, rfl, _, _, rfl, rel_ofValue h.next vz, _, _, rfl, rfl, rfl⟩
          | some p =>
            obtain ⟨a, rfl, ga⟩ := g2
            refine ⟨if ok then .tuple #[p.2, .bool true] else p.2, by simp [Instr.lookup, run_underlying hu, hx, hck, g1], ?_⟩
            cases ok with
            | false => exact ga
            | true => exact ⟨_, rfl, _, _, rfl, ga, _, _, rfl, rfl, rfl⟩
        · obtain ⟨r'', g1, g2⟩ := key l.toList hl
          cases r'' with
          | none =>
            refine ⟨if ok then .tuple #[vz, .bool false] else vz, by simp [Instr.lookup, run_underlying hu, hx, getObj_map hb, hck, g1, hzero], ?_⟩
            rw [g2]
            cases ok with
            | false => exact rel_ofValue h.next vz
            | true => exact ⟨_, rfl, _, _, rfl, rel_ofValue h.next vz, _, _, rfl, rfl, rfl⟩
          | some p =>
            obtain ⟨a, rfl, ga⟩ := g2
            refine ⟨if ok then .tuple #[p.2, .bool true] else p.2, by simp [Instr.lookup, run_underlying hu, hx, getObj_map hb, hck, g1], ?_⟩
            cases ok with
            | false => exact ga
            | true => exact ⟨_, rfl, _, _, rfl, ga, _, _, rfl, rfl, rfl⟩
      obtain ⟨u, hr, x⟩ := fin
      exact ResR.val (by simp [execOp, hT, hr]) x

/-! Lengths -/

def lnOkT (P : Program) (t : TypeId) : LnK → Prop
  | .str => P.underlying t = some .string
  | .sl => ∃ e, P.underlying t = some (.slice e)
  | .map => ∃ k e, P.underlying t = some (.map k e)
  | .no => True
theorem lnK_spec {t : TypeId} {k : LnK} (hk : lnK P t = k) : lnOkT P t k := by
  unfold lnK at hk
  split at hk
  · subst hk; assumption
  · subst hk; exact ⟨_, by assumption⟩
  · subst hk; exact ⟨_, _, by assumption⟩
  · subst hk; trivial

theorem execBuiltin {b : Builtin} {args : Array Operand} {ts : Array TypeId} {T : Oper} (hT : T.op = .call { callee := .builtin b, args, argTypes := ts }) :
    execOp ρ T = builtin b ts T.type (args.map fun | .const _ => true | _ => false) (args.map ρ) := by
  simp only [execOp, hT, resolve]
  rfl

theorem rngN_rel {n a b x : Nat} (h1 : a ≤ x) (h2 : x ≤ b) : (rngN a b).rel ν n (goInt x) := by
  unfold rngN
  cases hb : Nat.beq a b with
  | true => have := Nat.eq_of_beq_eq_true hb; have : x = a := by omega
            subst this; rfl
  | false => exact ⟨_, rfl, Int.ofNat_le.2 h1, Int.ofNat_le.2 h2⟩

theorem ok_len (t : TypeId) (x : Operand) : SoundR P (.call { callee := .builtin .len, args := #[x], argTypes := #[t] }) (F_len (lnK P t) (c x)) c := by
  intro ν h w ρA ρ T hT I R out e
  rw [execBuiltin hT]
  have rx := R x
  obtain ⟨hk, e⟩ := cond_opt e
  have sp := lnK_spec (P := P) (t := t) rfl
  have fin : ∀ n : Nat, (Builtin.len_ #[t] T.type #[ρ x]).run P w = .ok (goInt n) w → out = .val (.int .i64 (.ofNat n)) h → ResR ν h w ((builtin .len #[t] T.type (#[x].map fun | .const _ => true | _ => false) (#[x].map ρ)).run P w) out := by
    rintro n hr rfl
    exact ResR.val (u := goInt n) (by simp [builtin, hr]) rfl
  generalize hax : ρA (c x) = ax at hk e rx
  unfold lnOk at hk
  split at hk
  · rename_i s hq
    rw [hq] at sp
    obtain ⟨b, hx, rfl⟩ := rx
    simp only [lenV, Option.some.injEq] at e
    refine fin b.size ?_ (by rw [← e]; simp)
    have hu : P.underlying t = some .string := sp
    simp [Builtin.len_, run_underlying hu, hx]
  · rename_i a n k ex hq
    rw [hq] at sp
    obtain ⟨el, hu⟩ := sp
    simp only [lenV, Option.some.injEq] at e
    refine fin n ?_ e.symm
    cases a with
    | none => obtain ⟨_, hx⟩ := rx; simp [Builtin.len_, run_underlying hu, hx]
    | some a => obtain ⟨_, k', hx, _⟩ := rx; simp [Builtin.len_, run_underlying hu, hx]
  · rename_i r hq
    rw [hq] at sp
    obtain ⟨kt, el, hu⟩ := sp
    cases r with
    | none =>
      simp only [lenV, Option.some.injEq] at e
      have hx : ρ x = .map none := rx
      exact fin 0 (by simp [Builtin.len_, run_underlying hu, hx]) e.symm
    | some r =>
      simp only [lenV] at e
      obtain ⟨_, hx⟩ := rx
      cases ho : h.obj r <;> simp only [ho, esOf, mapLen, reduceCtorEq, Option.some.injEq] at e
      rename_i es k
      obtain ⟨l, hb, y⟩ := map_obj I ho
      have hlen : ∀ {es : List (AV × AV × Nat)} {l : List MapEntry}, entRel ν h.next es l → es.length = l.length := by
        intro es
        induction es with
        | nil => intro l h; cases h; rfl
        | cons a es ih => rintro l ⟨e, s, rfl, _, _, _, r⟩; simp [ih r]
      refine fin l.size ?_ (by rw [← e, hlen y]; simp)
      simp [Builtin.len_, run_underlying hu, hx, getObj_map hb]
  · rename_i lo hi hq
    rw [hq] at sp
    have hu : P.underlying t = some .string := sp
    obtain ⟨b, hx, b1, b2⟩ := rx
    simp only [lenV, Option.some.injEq] at e
    subst e
    exact ResR.val (u := goInt b.size) (by simp [builtin, Builtin.len_, run_underlying hu, hx]) (rngN_rel b1 b2)
  · rename_i i lo hi hq
    rw [hq] at sp
    obtain ⟨el, hu⟩ := sp
    obtain ⟨_, o, len, cap, hx, b1, b2, -⟩ := rx
    simp only [lenV, Option.some.injEq] at e
    subst e
    exact ResR.val (u := goInt len) (by simp [builtin, Builtin.len_, run_underlying hu, hx]) (rngN_rel b1 b2)
  · rename_i i lo hi hq
    rw [hq] at sp
    obtain ⟨el, hu⟩ := sp
    simp only [lenV, Option.some.injEq] at e
    subst e
    rcases rx with ⟨q0, hx⟩ | ⟨_, o, len, cap, cs, el', fz, hx, b1, b2, -⟩
    · exact ResR.val (u := goInt 0) (by simp [builtin, Builtin.len_, run_underlying hu, hx]) (rngN_rel (x := 0) (by omega) (Nat.zero_le _))
    exact ResR.val (u := goInt len) (by simp [builtin, Builtin.len_, run_underlying hu, hx]) (rngN_rel b1 b2)
  · rename_i i lo hi hq
    rw [hq] at sp
    obtain ⟨el, hu⟩ := sp
    simp only [lenV, Option.some.injEq] at e
    subst e
    obtain ⟨l, ⟨q0, q1, hx⟩ | ⟨o, cap, cs, el', fz, hx, b1, b2, -⟩⟩ := rx
    · exact ResR.val (u := goInt 0) (by simp [builtin, Builtin.len_, run_underlying hu, hx]) ⟨l, _, rfl, by simp [q0], Int.natCast_nonneg _, Int.natCast_nonneg _⟩
    · exact ResR.val (u := goInt (ν.len i)) (by simp [builtin, Builtin.len_, run_underlying hu, hx]) ⟨l, _, rfl, Int.ofNat_le.2 b1, Int.ofNat_le.2 b2, Int.le_refl _⟩
  · rename_i q lo hi i c hq
    rw [hq] at sp
    obtain ⟨el, hu⟩ := sp
    simp only [lenV, Option.some.injEq] at e
    subst e
    obtain ⟨_, _, o, len, cap, hx, b1, b2, -⟩ := rx
    exact ResR.val (u := goInt len) (by simp [builtin, Builtin.len_, run_underlying hu, hx]) (rngN_rel b1 b2)
  · simp at hk

theorem ok_cap (t el : TypeId) (x : Operand) (hu : P.underlying t = some (.slice el)) : Sound P (.call { callee := .builtin .cap, args := #[x], argTypes := #[t] }) (F_cap (c x)) c := by
  intro ν h w ρA ρ T hT I R out e
  rw [execBuiltin hT]
  obtain ⟨v, hv, rfl⟩ := valE_some e
  have rx := R x
  generalize hax : ρA (c x) = ax at hv rx
  unfold capV at hv
  split at hv
  · rename_i a n k
    simp only [Option.some.injEq] at hv
    subst hv
    cases a with
    | none =>
      obtain ⟨_, hx⟩ := rx
      exact Res.val I (u := goInt k) (by simp [builtin, Builtin.cap_, run_underlying hu, hx]) rfl
    | some a =>
      obtain ⟨_, k', hx, hex, _⟩ := rx
      cases hex rfl
      exact Res.val I (u := goInt k) (by simp [builtin, Builtin.cap_, run_underlying hu, hx]) rfl
  · simp at hv

theorem ok_call (f : Operand) (args : Array Operand) (ts : Array TypeId) : Sound P (.call { callee := .value f, args, argTypes := ts }) (F_call (c f) (args.toList.map c)) c := by
  intro ν h w ρA ρ T hT I R out e
  have rf := R f
  simp only [F_call, List.map_map] at e
  generalize haf : ρA (c f) = af at e rf
  unfold enterE at e
  split at e
  · rename_i g first captured
    simp only [Option.some.injEq] at e
    subst e
    obtain ⟨f', c', hf, r1, r2⟩ := rf
    have ra : relL ν h.next (args.toList.map (ρA ∘ c)) (args.toList.map ρ) := relL_map _ _ args.toList fun x _ => R x
    refine ⟨rfl, f'.toList ++ args.toList.map ρ ++ c'.toList, ?_, relL_append (relL_append r1 ra) r2⟩
    have he : execOp ρ T = callFunc g (f' ++ args.map ρ ++ c') := by
      simp only [execOp, hT, resolve, hf, Deferred.ofValue]
      rfl
    rw [he]
    congr 2
    apply Array.ext'
    simp
  · simp at e

end Go.Ev
