/-
  THE EVALUATOR IS RIGHT, fourth text: more operations that turn no old block.
-/
import Derived.Test.YtdcondepcjijnaaGreatEvE
namespace Go.Ev
open Go

variable {P : Program} {ν : V} {h : Heap} {w : World} {ρA : MO → AV} {ρ : Operand → Value} {c : Operand → MO}

/-! Slices' literals -/

theorem made_eq (z : Array Value) (hz : 0 < z.size) : ∀ len, ((Array.range (len * z.size)).map (z[· % z.size]!)).toList = (List.replicate len z.toList).flatten
  | 0 => by simp
  | len + 1 => by
    have ih := made_eq z hz len
    simp only [Array.toList_map, Array.toList_range] at ih ⊢
    rw [Nat.succ_mul, List.range_add, List.map_append, ih, List.replicate_succ', List.flatten_append]
    congr 1
    simp only [List.map_map, List.flatten_cons, List.flatten_nil, List.append_nil]
    apply List.ext_getElem?
    intro i
    by_cases hi : i < z.size
    · simp [hi, Nat.mod_eq_of_lt hi, getElem!_pos z i hi]
    · simp [hi]

theorem ok_buildSlice (t : TypeId) (len : Nat) (parts : Array (Nat × Operand)) {f : OpF} (hf : cmpBuildS P c t len parts.toList = some f) : Sound P (.buildSlice t len parts) f c := by
  intro ν h w ρA ρ T hT I R out e
  unfold cmpBuildS at hf
  cases hu : P.underlying t with
  | none => simp [hu] at hf
  | some d =>
    cases d with
    | slice el =>
      simp only [hu] at hf
      cases hs : szOf P el with
      | none => simp [hs] at hf
      | some size =>
        cases hz : zeroOf P el with
        | none => simp [hs, hz] at hf
        | some z =>
          simp only [hs, hz] at hf
          obtain ⟨hb, hf⟩ := cond_opt hf
          simp only [Bool.and_eq_true] at hb
          have b1 := Nat.le_of_ble_eq_true hb.1.1
          have b2 := Nat.eq_of_beq_eq_true hb.1.2
          have b3 := Nat.le_of_ble_eq_true hb.2
          obtain ⟨i, v, hi, hv, rfl⟩ := zeroOf_info hz
          have hcells := cells_ofValue (ν := ν) h.next v
          have hvs : v.cells.size = size := by have := relL_len hcells; simp at this; omega
          cases hl : cmpParts (placeA size) c parts.toList with
          | none => simp [hl] at hf
          | some l =>
            simp only [hl, Option.some.injEq] at hf
            subst hf
            simp only [F_buildS, buildS2] at e
            cases hfill : fillM ρA l (List.replicate len (ofValue v).cells).flatten with
            | none => simp [hfill] at e
            | some cs =>
              simp only [hfill, Option.some.injEq] at e
              subst e
              have hmade := made_eq v.cells (by omega) len
              have hr := relL_flatten hcells len
              rw [← hmade] at hr
              obtain ⟨us, hus, r⟩ := fill_rel R parts.toList l _ _ _ hl hr hfill
              obtain ⟨ν', st, hbk⟩ := new_flatS I (e := el) r (isByteT P el)
              have hrun : (Instr.buildSlice t len (parts.map fun p => (p.1, ρ p.2))).run P w = .ok (.slice (some ⟨w.heap.size, 0, none⟩) len len) (w.alloc (.cells us el)) := by
                have hfn : (fun i => some (i * size, size)) = placeA size := rfl
                rw [hvs] at hus
                by_cases h0 : len * size = 0
                · have hl0 : len = 0 := by rcases Nat.mul_eq_zero.1 h0 with q | q; exact q; omega
                  subst hl0
                  simp only [Nat.zero_mul, Array.range_zero', Array.map_empty] at hus
                  have hr0 : Array.range 0 = #[] := rfl
                  simp [Instr.buildSlice, run_underlying hu, szOf_run hs, hfn, hus, newRow, hr0]
                · have hb' : ¬ (len * size > 2 ^ 24) := by omega
                  have hz : (zeroValue el).run P w = .ok v w := by simp [zeroValue, typeInfo, hi, hv]
                  simp only [Instr.buildSlice, Sem.run_bind, run_underlying hu, Result.andThen_ok, szOf_run hs, Sem.run_ite, if_neg hb', if_neg h0, hz, Sem.run_pure, hvs, hfn]
                  have hus' : Instr.fill (placeA size) (Array.map (fun x => v.cells[x % size]!) (Array.range (len * size))) (Array.map (fun p => (p.1, ρ p.2)) parts).toList = some us := by simpa using hus
                  rw [hus']
                  simp [newRow]
              refine ⟨.slice (some ⟨w.heap.size, 0, none⟩) len len, _, ν', ?_, st, ?_⟩
              · simp [execOp, hT, hrun]
              · exact ⟨st.has_new, len, by rw [hbk], fun _ => rfl, fun q => by simp at q⟩
    | _ => simp [hu] at hf

/-! Loads -/

theorem ok_load (t : TypeId) (a : Operand) {n : Nat} (hs : szOf P t = some n) (hd : (P.underlying t).isSome = true) : SoundR P (.load t a) (bif isAggB P t then F_loadN n (c a) else F_load1 (c a)) c := by
  intro ν h w ρA ρ T hT I R out e
  have hx := R a
  have hag := isAgg_run hs w hd
  cases hb : isAggB P t with
  | true =>
    rw [hb] at e
    obtain ⟨v, hv, rfl⟩ := valE_some e
    cases hc : ρA (c a) with
    | ptr p =>
      cases p with
      | none => rw [hc] at hv; simp [loadNA] at hv
      | some p =>
        rw [hc] at hx hv
        obtain ⟨hlt, hx⟩ := hx
        obtain ⟨l, hl, rfl⟩ := aggE_some hv
        obtain ⟨s, r, hn, hrun⟩ := loadN_run (P := P) I hl
        refine ResR.val (u := .agg s.toArray) ?_ ⟨s.toArray, rfl, r⟩
        simp [execOp, hT, hx, Instr.loadAt, Instr.sureAddr, loadVar, hag, hb, szOf_run hs, hrun]
    | _ => rw [hc] at hv; simp [loadNA] at hv
  | false =>
    rw [hb] at e
    obtain ⟨v, hv, rfl⟩ := valE_some e
    cases hc : ρA (c a) with
    | ptr p =>
      cases p with
      | none => rw [hc] at hv; simp [load1A] at hv
      | some p =>
        rw [hc] at hx hv
        obtain ⟨hlt, hx⟩ := hx
        obtain ⟨u, r, hcell⟩ := load1_run (P := P) I hv
        refine ResR.val (u := u) ?_ r
        simp [execOp, hT, hx, Instr.loadAt, Instr.sureAddr, loadVar, hag, hb, hcell]
    | _ => rw [hc] at hv; simp [load1A] at hv

theorem ok_nilc (x : Operand) : Sound P (.nilCheck x) (F_nilc (c x)) c := by
  intro ν h w ρA ρ T hT I R out e
  have hx := R x
  obtain ⟨v, hv, rfl⟩ := valE_some e
  cases hc : ρA (c x) with
  | ptr p =>
    cases p with
    | none => rw [hc] at hv; simp [nilE] at hv
    | some p =>
      rw [hc] at hx hv
      simp only [nilE, Option.some.injEq] at hv
      subst hv
      obtain ⟨hlt, hx⟩ := hx
      exact Res.val I (by simp [execOp, hT, hx]) ⟨hlt, rfl⟩
  | _ => rw [hc] at hv; simp [nilE] at hv

/-! Numbers -/

theorem kEq_eq {j k : IntKind} (h : kEq j k = true) : j = k := by
  have := Nat.eq_of_beq_eq_true h
  cases j <;> cases k <;> simp [ixK] at this <;> rfl

theorem eqI_eq (a b : Int) : eqI a b = (a == b) := by
  cases a with
  | ofNat a =>
    cases b with
    | ofNat b =>
      show Nat.beq a b = _
      rw [Bool.eq_iff_iff, Nat.beq_eq, beq_iff_eq]
      exact ⟨fun h => by rw [h], fun h => by injection h⟩
    | negSucc b => rfl
  | negSucc a =>
    cases b with
    | ofNat b => rfl
    | negSucc b =>
      show Nat.beq a b = _
      rw [Bool.eq_iff_iff, Nat.beq_eq, beq_iff_eq]
      exact ⟨fun h => by rw [h], fun h => by injection h⟩

theorem ltI_eq (a b : Int) : ltI a b = decide (a < b) := by
  rw [Bool.eq_iff_iff, decide_eq_true_eq]
  cases a with
  | ofNat a =>
    cases b with
    | ofNat b => show Nat.ble (a + 1) b = true ↔ _; rw [Nat.ble_eq]; simp only [Int.ofNat_eq_natCast]; omega
    | negSucc b => exact ⟨(fun q => nomatch (show false = true from q)), (fun q => by rw [Int.negSucc_eq, Int.ofNat_eq_natCast] at q; omega)⟩
  | negSucc a =>
    cases b with
    | ofNat b => exact ⟨fun _ => by rw [Int.negSucc_eq, Int.ofNat_eq_natCast]; omega, fun _ => rfl⟩
    | negSucc b => show Nat.ble (b + 1) a = true ↔ _; rw [Nat.ble_eq]; simp only [Int.negSucc_eq]; omega

theorem not_lt_le (a b : Int) : (!decide (b < a)) = decide (a ≤ b) := by rw [Bool.eq_iff_iff]; simp

theorem wrapE_eq (k : IntKind) (n : Int) : wrapE k n = k.wrap n := by
  cases n with
  | negSucc m => rfl
  | ofNat m =>
    show (bif Nat.ble (limK k) m then k.wrap (.ofNat m) else .ofNat m) = _
    cases hb : Nat.ble (limK k) m with
    | true => rfl
    | false =>
      have hlt : m < limK k := by
        rcases Nat.lt_or_ge m (limK k) with q | q
        · exact q
        · rw [Nat.ble_eq_true_of_le q] at hb; cases hb
      simp only [cond_false, Int.ofNat_eq_natCast]
      cases k <;> simp only [limK] at hlt <;> simp only [IntKind.wrap, IntKind.bits, IntKind.signed, Nat.reducePow, Nat.reduceSub, Int.reducePow] <;> simp <;> omega

theorem min_eq (a b : Nat) : Nat.min a b = min a b := rfl

theorem ok_binI {op : BinOp} {k : IntKind} {a b : Int} {v : AV} (hsh : isSh op = false) (hv : binI op k a b = some v) (t : TypeId) :
    ∃ u, (binOp op t (.int k a) (.int k b)).run P w = .ok u w ∧ v.rel ν h.next u := by
  cases op <;> simp only [isSh, Bool.true_eq_false] at hsh <;> simp only [binI, reduceCtorEq, Option.some.injEq] at hv
  case quo =>
    obtain ⟨hb, hv⟩ := cond_none hv
    rw [eqI_eq] at hb
    simp only [Option.some.injEq] at hv
    subst hv
    exact ⟨.int k (k.wrap (a.tdiv b)), by simp [binOp, Op.intDiv, show ¬ b = 0 by simpa using hb], by rw [wrapE_eq]; rfl⟩
  case rem =>
    obtain ⟨hb, hv⟩ := cond_none hv
    rw [eqI_eq] at hb
    simp only [Option.some.injEq] at hv
    subst hv
    exact ⟨.int k (a.tmod b), by simp [binOp, Op.intDiv, show ¬ b = 0 by simpa using hb], rfl⟩
  all_goals subst hv
  all_goals first
    | exact ⟨_, by simp only [binOp, Op.intArith, Op.intBits, Op.intCmp, ne_eq, not_true_eq_false, if_false]; rfl, by first | (rw [wrapE_eq]; rfl) | (rw [eqI_eq]; rfl) | (rw [ltI_eq]; rfl) | (rw [ltI_eq, not_lt_le]; rfl)⟩

theorem ok_shE {op : BinOp} {k yk : IntKind} {a b : Int} {v : AV} (hv : shE op k a b = some v) (t : TypeId) :
    ∃ u, (binOp op t (.int k a) (.int yk b)).run P w = .ok u w ∧ v.rel ν h.next u := by
  cases b with
  | negSucc n => simp [shE] at hv
  | ofNat n =>
    have h0 : ¬ (Int.ofNat n < 0) := by simp
    have e2 : (Int.ofNat n).toNat = n := rfl
    cases op <;> simp only [shE, reduceCtorEq, Option.some.injEq] at hv <;> subst hv
    · refine ⟨_, by simp only [binOp, Op.shift, if_neg h0, e2]; rfl, ?_⟩
      rw [wrapE_eq, min_eq]
      show Value.int _ _ = _
      simp
    · refine ⟨_, by simp only [binOp, Op.shift, if_neg h0, e2]; rfl, ?_⟩
      rw [min_eq]
      show Value.int _ _ = _
      simp

theorem ok_topB {op : BinOp} {k : IntKind} {a b : Int} {v : AV} (hv : topB op k = some v) (t : TypeId) :
    ∃ u, (binOp op t (.int k a) (.int k b)).run P w = .ok u w ∧ v.rel ν h.next u := by
  cases op <;> simp only [topB, reduceCtorEq, Option.some.injEq] at hv <;> subst hv <;>
    exact ⟨_, by simp only [binOp, Op.intArith, Op.intBits, ne_eq, not_true_eq_false, if_false]; rfl, ⟨_, rfl⟩⟩

theorem ok_shT {op : BinOp} {k yk : IntKind} {a b : Int} {v : AV} (hv : shT op k b = some v) (t : TypeId) :
    ∃ u, (binOp op t (.int k a) (.int yk b)).run P w = .ok u w ∧ v.rel ν h.next u := by
  obtain ⟨h1, hv⟩ := cond_none hv
  obtain ⟨h2, hv⟩ := cond_some hv
  rw [ltI_eq] at h1
  have h0 : ¬ b < 0 := by simpa using h1
  subst hv
  cases op <;> simp only [isSh, reduceCtorEq] at h2
  · exact ⟨_, by simp only [binOp, Op.shift, if_neg h0]; rfl, ⟨_, rfl⟩⟩
  · exact ⟨_, by simp only [binOp, Op.shift, if_neg h0]; rfl, ⟨_, rfl⟩⟩

theorem eqL_eq : ∀ (a b : List UInt8), eqL (a.map UInt8.toNat) (b.map UInt8.toNat) = (a == b)
  | [], [] => rfl
  | [], _ :: _ => rfl
  | _ :: _, [] => rfl
  | a :: x, b :: y => by
    show (Nat.beq a.toNat b.toNat && eqL (x.map UInt8.toNat) (y.map UInt8.toNat)) = _
    rw [eqL_eq x y]
    show _ = (a == b && x == y)
    congr 1
    rw [Bool.eq_iff_iff, Nat.beq_eq, beq_iff_eq]
    exact ⟨fun h => UInt8.toNat_inj.1 h, fun h => by rw [h]⟩

theorem ltL_eq : ∀ (a b : List UInt8), ltL (a.map UInt8.toNat) (b.map UInt8.toNat) = Op.bytesLess a b
  | [], [] => rfl
  | [], _ :: _ => rfl
  | _ :: _, [] => rfl
  | a :: x, b :: y => by
    show (Nat.ble (Nat.succ a.toNat) b.toNat || (Nat.beq a.toNat b.toNat && ltL (x.map UInt8.toNat) (y.map UInt8.toNat))) = _
    rw [ltL_eq x y]
    simp only [Op.bytesLess]
    have e1 : Nat.ble (Nat.succ a.toNat) b.toNat = decide (a < b) := by
      rw [Bool.eq_iff_iff, Nat.ble_eq, decide_eq_true_eq, UInt8.lt_iff_toNat_lt]; rfl
    have e2 : Nat.beq a.toNat b.toNat = (a == b) := by
      rw [Bool.eq_iff_iff, Nat.beq_eq, beq_iff_eq]
      exact ⟨fun h => UInt8.toNat_inj.1 h, fun h => by rw [h]⟩
    rw [e1, e2]

theorem baToList (b : ByteArray) : b.toList = b.data.toList := ByteArray.toList_eq b

theorem ok_binS {op : BinOp} {a b : ByteArray} {v : AV} (hv : binS op (a.data.toList.map UInt8.toNat) (b.data.toList.map UInt8.toNat) = some v) (t : TypeId) :
    ∃ u, (binOp op t (.string a) (.string b)).run P w = .ok u w ∧ v.rel ν h.next u := by
  cases op <;> simp only [binS, reduceCtorEq, Option.some.injEq] at hv
  case add =>
    obtain ⟨h1, hv⟩ := cond_some hv
    have h1 := Nat.le_of_ble_eq_true h1
    subst hv
    have hsz : a.size + b.size ≤ 9223372036854775807 := by
      simp only [List.length_map, Array.length_toList] at h1
      show a.data.size + b.data.size ≤ _
      omega
    refine ⟨.string (a ++ b), ?_, ⟨_, rfl, by simp⟩⟩
    simp [binOp, run_string_add_sum w a b hsz]
  all_goals subst hv
  all_goals
    refine ⟨_, by simp only [binOp, Op.stringOp, baToList]; rfl, ?_⟩
    first | (rw [eqL_eq]; rfl) | (rw [ltL_eq]; rfl)

/-! Numbers between bounds -/

theorem wrap_id {k : IntKind} {x : Int} (h1 : loK k ≤ x) (h2 : x ≤ hiK k) : k.wrap x = x := by
  cases k <;> simp only [loK, hiK] at h1 h2 <;> simp only [IntKind.wrap, IntKind.bits, IntKind.signed, Nat.reducePow, Nat.reduceSub, Int.reducePow] <;> simp <;> omega

theorem rngE_rel {n : Nat} {k : IntKind} {lo hi x : Int} (h1 : lo ≤ x) (h2 : x ≤ hi) : (rngE k lo hi).rel ν n (.int k (k.wrap x)) := by
  unfold rngE
  rw [ltI_eq, ltI_eq]
  cases hb : (decide (lo < loK k) || decide (hiK k < hi)) with
  | true => exact ⟨_, rfl⟩
  | false =>
    simp only [Bool.or_eq_false_iff, decide_eq_false_iff_not, Int.not_lt] at hb
    exact ⟨x, by rw [wrap_id (by omega) (by omega)], h1, h2⟩

theorem ok_lessR {lo hi lo' hi' a b : Int} {x y v : AV} (h1 : lo ≤ a) (h2 : a ≤ hi) (h3 : lo' ≤ b) (h4 : b ≤ hi') (hv : lessR lo hi lo' hi' x y = some v) : (a < b ∧ v = x) ∨ (¬ a < b ∧ v = y) := by
  unfold lessR at hv
  simp only [ltI_eq] at hv
  by_cases q : hi < lo'
  · simp only [q, decide_true, cond_true, Option.some.injEq] at hv
    exact .inl ⟨by omega, hv.symm⟩
  · simp only [q, decide_false, cond_false] at hv
    obtain ⟨q2, hv⟩ := cond_none hv
    simp only [decide_eq_false_iff_not, Option.some.injEq] at q2 hv
    exact .inr ⟨by omega, hv.symm⟩
theorem ok_leqR {lo hi lo' hi' a b : Int} {x y v : AV} (h1 : lo ≤ a) (h2 : a ≤ hi) (h3 : lo' ≤ b) (h4 : b ≤ hi') (hv : leqR lo hi lo' hi' x y = some v) : (a ≤ b ∧ v = x) ∨ (¬ a ≤ b ∧ v = y) := by
  unfold leqR at hv
  simp only [ltI_eq] at hv
  by_cases q : lo' < hi
  · simp only [q, decide_true, cond_true] at hv
    obtain ⟨q2, hv⟩ := cond_some hv
    simp only [decide_eq_true_eq] at q2
    exact .inr ⟨by omega, hv.symm⟩
  · simp only [q, decide_false, cond_false, Option.some.injEq] at hv
    exact .inl ⟨by omega, hv.symm⟩

theorem ok_binR {op : BinOp} {k : IntKind} {lo hi lo' hi' a b : Int} {v : AV} (h1 : lo ≤ a) (h2 : a ≤ hi) (h3 : lo' ≤ b) (h4 : b ≤ hi') (hv : binR op k lo hi lo' hi' = some v) (t : TypeId) :
    ∃ u, (binOp op t (.int k a) (.int k b)).run P w = .ok u w ∧ v.rel ν h.next u := by
  cases op <;> simp only [binR, reduceCtorEq, Option.some.injEq] at hv
  case add =>
    subst hv
    exact ⟨_, by simp only [binOp, Op.intArith, Op.intBits, Op.intCmp, ne_eq, not_true_eq_false, if_false]; rfl, rngE_rel (x := a + b) (show lo + lo' ≤ _ by omega) (show _ ≤ hi + hi' by omega)⟩
  case sub =>
    subst hv
    exact ⟨_, by simp only [binOp, Op.intArith, Op.intBits, Op.intCmp, ne_eq, not_true_eq_false, if_false]; rfl, rngE_rel (x := a - b) (show lo - hi' ≤ _ by omega) (show _ ≤ hi - lo' by omega)⟩
  case quo =>
    obtain ⟨q1, hv⟩ := cond_opt hv
    unfold divR at hv
    obtain ⟨q2, hv⟩ := cond_none hv
    rw [eqI_eq] at q1
    simp only [ltI_eq, Bool.or_eq_false_iff, decide_eq_false_iff_not, Int.not_lt, Option.some.injEq] at q2 hv
    have e1 : lo' = hi' := by simpa using q1
    have e2 : b = lo' := by omega
    subst hv
    subst e2
    have hb : ¬ b = 0 := by omega
    refine ⟨.int k (k.wrap (a.tdiv b)), by simp [binOp, Op.intDiv, hb], ?_⟩
    refine rngE_rel ?_ ?_
    · show lo.tdiv b ≤ a.tdiv b
      rw [Int.tdiv_eq_ediv_of_nonneg q2.1, Int.tdiv_eq_ediv_of_nonneg (by omega)]
      exact Int.ediv_le_ediv (by omega) h1
    · show a.tdiv b ≤ hi.tdiv b
      rw [Int.tdiv_eq_ediv_of_nonneg (by omega), Int.tdiv_eq_ediv_of_nonneg (by omega)]
      exact Int.ediv_le_ediv (by omega) h2
  case eql =>
    obtain ⟨q, rfl⟩ := cond_some hv
    simp only [ltI_eq, Bool.or_eq_true, decide_eq_true_eq] at q
    refine ⟨.bool (a == b), by simp only [binOp, Op.intArith, Op.intBits, Op.intCmp, ne_eq, not_true_eq_false, if_false]; rfl, ?_⟩
    have : (a == b) = false := by simp; omega
    rw [this]; rfl
  case neq =>
    obtain ⟨q, rfl⟩ := cond_some hv
    simp only [ltI_eq, Bool.or_eq_true, decide_eq_true_eq] at q
    refine ⟨.bool (!(a == b)), by simp only [binOp, Op.intArith, Op.intBits, Op.intCmp, ne_eq, not_true_eq_false, if_false]; rfl, ?_⟩
    have : (a == b) = false := by simp; omega
    rw [this]; rfl
  case lss =>
    refine ⟨.bool (decide (a < b)), by simp only [binOp, Op.intArith, Op.intBits, Op.intCmp, ne_eq, not_true_eq_false, if_false]; rfl, ?_⟩
    rcases ok_lessR h1 h2 h3 h4 hv with ⟨q, rfl⟩ | ⟨q, rfl⟩
    · show Value.bool _ = .bool _; simp [q]
    · show Value.bool _ = .bool _; simp [q]
  case geq =>
    refine ⟨.bool (decide (b ≤ a)), by simp only [binOp, Op.intArith, Op.intBits, Op.intCmp, ne_eq, not_true_eq_false, if_false]; rfl, ?_⟩
    rcases ok_lessR h1 h2 h3 h4 hv with ⟨q, rfl⟩ | ⟨q, rfl⟩
    · show Value.bool _ = .bool _; simp; omega
    · show Value.bool _ = .bool _; simp; omega
  case leq =>
    refine ⟨.bool (decide (a ≤ b)), by simp only [binOp, Op.intArith, Op.intBits, Op.intCmp, ne_eq, not_true_eq_false, if_false]; rfl, ?_⟩
    rcases ok_leqR h1 h2 h3 h4 hv with ⟨q, rfl⟩ | ⟨q, rfl⟩
    · show Value.bool _ = .bool _; simp [q]
    · show Value.bool _ = .bool _; simp [q]
  case gtr =>
    refine ⟨.bool (decide (b < a)), by simp only [binOp, Op.intArith, Op.intBits, Op.intCmp, ne_eq, not_true_eq_false, if_false]; rfl, ?_⟩
    rcases ok_leqR h1 h2 h3 h4 hv with ⟨q, rfl⟩ | ⟨q, rfl⟩
    · show Value.bool _ = .bool _; simp; omega
    · show Value.bool _ = .bool _; simp; omega

theorem ok_shR {op : BinOp} {k yk : IntKind} {lo hi a b : Int} {v : AV} (h1 : lo ≤ a) (h2 : a ≤ hi) (hv : shR op k lo hi b = some v) (t : TypeId) :
    ∃ u, (binOp op t (.int k a) (.int yk b)).run P w = .ok u w ∧ v.rel ν h.next u := by
  cases b with
  | negSucc n => simp [shR] at hv
  | ofNat n =>
    have h0 : ¬ (Int.ofNat n < 0) := by simp
    have e2 : (Int.ofNat n).toNat = n := rfl
    cases op <;> simp only [shR, reduceCtorEq, Option.some.injEq] at hv <;> subst hv
    refine ⟨_, by simp only [binOp, Op.shift, if_neg h0, e2]; rfl, ?_⟩
    have hp : (0 : Int) < Int.ofNat (Nat.pow 2 (Nat.min n k.bits)) := by
      have : 0 < 2 ^ (Nat.min n k.bits) := Nat.pow_pos (by decide)
      show (0 : Int) < ((2 ^ (Nat.min n k.bits) : Nat) : Int)
      omega
    refine ⟨Int.fdiv a (Int.ofNat (Nat.pow 2 (Nat.min n k.bits))), ?_, ?_, ?_⟩
    · rw [min_eq]
      simp
    · rw [Int.fdiv_eq_ediv_of_nonneg _ (by omega), Int.fdiv_eq_ediv_of_nonneg _ (by omega)]
      exact Int.ediv_le_ediv hp h1
    · rw [Int.fdiv_eq_ediv_of_nonneg _ (by omega), Int.fdiv_eq_ediv_of_nonneg _ (by omega)]
      exact Int.ediv_le_ediv hp h2

theorem ok_binRR {op : BinOp} {k k' : IntKind} {lo hi lo' hi' a b : Int} {v : AV} (h1 : lo ≤ a) (h2 : a ≤ hi) (h3 : lo' ≤ b) (h4 : b ≤ hi') (hv : binRR op k lo hi k' lo' hi' = some v) (t : TypeId) :
    ∃ u, (binOp op t (.int k a) (.int k' b)).run P w = .ok u w ∧ v.rel ν h.next u := by
  unfold binRR at hv
  obtain ⟨_, hv1⟩ := cond_none hv
  obtain ⟨hk, hv2⟩ := cond_opt hv1
  cases kEq_eq hk
  exact ok_binR h1 h2 h3 h4 hv2 t

theorem ok_binSU {op : BinOp} {a b c d : Nat} {x y : ByteArray} {v : AV} (h1 : a ≤ x.size) (h2 : x.size ≤ b) (h3 : c ≤ y.size) (h4 : y.size ≤ d) (hv : binSU op a b c d = some v) (t : TypeId) :
    ∃ u, (binOp op t (.string x) (.string y)).run P w = .ok u w ∧ v.rel ν h.next u := by
  have hne : x.size ≠ y.size → (x.toList == y.toList) = false := fun q => by
    cases hb : x.toList == y.toList with
    | false => rfl
    | true =>
      rw [baToList, baToList] at hb
      have := congrArg List.length (eq_of_beq hb)
      simp only [Array.length_toList] at this
      exact absurd this q
  cases op <;> simp only [binSU, reduceCtorEq] at hv
  case add =>
    obtain ⟨q, rfl⟩ := cond_some hv
    have q := Nat.le_of_ble_eq_true q
    refine ⟨.string (x ++ y), by simp [binOp, run_string_add_sum w x y (by omega)], ⟨_, rfl, ?_, ?_⟩⟩
    · simp; omega
    · simp; omega
  all_goals
    obtain ⟨q, rfl⟩ := cond_some hv
    simp only [Bool.or_eq_true] at q
    have q' : x.size ≠ y.size := by
      rcases q with q | q
      · have := Nat.le_of_ble_eq_true q; omega
      · have := Nat.le_of_ble_eq_true q; omega
    refine ⟨_, by simp only [binOp, Op.stringOp]; rfl, ?_⟩
    rw [hne q']; rfl

end Go.Ev
