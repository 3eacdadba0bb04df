/-
  THE EVALUATOR IS RIGHT, fifth text: the rest of the operations that turn no old block.
-/
import Derived.Test.YtdcondepcjijnaaGreatEvF
namespace Go.Ev
open Go

variable {P : Program} {ν : V} {h : Heap} {w : World} {ρA : MO → AV} {ρ : Operand → Value} {c : Operand → MO}

/-! Comparisons of other values -/

theorem eqGuard_run {op : BinOp} {t : TypeId} {x y : Operand} {a b : Value} (ha : a ≠ .nilIface) (hg : ∀ cs, a ≠ .agg cs) (w : World) : (eqGuard op t x y a b).run P w = .ok () w := by
  unfold eqGuard
  cases op <;> try rfl
  all_goals
    cases a <;> first
      | rfl
      | (exact absurd rfl ha)
      | (exact absurd rfl (hg _))

theorem equal_eq (t : TypeId) (x y : Value) : Op.equal t x y = Op.equalIn (9999 + 1) t x y := rfl

theorem execBin {op : BinOp} {t u : TypeId} {x y : Operand} {T : Oper} (hT : T.op = .binOp op t x y u) {r : Value} (ha : ρ x ≠ .nilIface) (hg : ∀ cs, ρ x ≠ .agg cs)
    (hr : (binOp op t (ρ x) (ρ y)).run P w = .ok r w) : (execOp ρ T).run P w = .ok (.value r) w := by
  simp [execOp, hT, eqGuard_run ha hg, hr]

theorem binQ_run {op : BinOp} {t : TypeId} {a b : Value} {e : Bool} {v : AV} (hv : binQ op e = some v) (he : (Op.equal t a b).run P w = .ok e w)
    (h1 : binOp .eql t a b = do pure (.bool (← Op.equal t a b))) (h2 : binOp .neq t a b = do pure (.bool (!(← Op.equal t a b)))) : ∃ u, (binOp op t a b).run P w = .ok u w ∧ v.rel ν h.next u := by
  cases op <;> simp only [binQ, reduceCtorEq, Option.some.injEq] at hv <;> subst hv
  · exact ⟨.bool e, by rw [h1]; simp [he], rfl⟩
  · exact ⟨.bool (!e), by rw [h2]; simp [he], rfl⟩

theorem equal_bool {t : TypeId} (ht : P.underlying t = some .bool) (a b : Bool) : (Op.equal t (.bool a) (.bool b)).run P w = .ok (eqB a b) w := by
  have : eqB a b = (a == b) := by cases a <;> cases b <;> rfl
  rw [equal_eq, Op.equalIn]
  simp [run_underlying ht, this]

theorem plain_block (I : Inv P ν h w) {i : Nat} (hp : plainO (h.obj i) = true) : ∃ c e, w.heap[ν.blk i]? = some (.cells c e (0, 0)) ∧ 0 < c.size ∧ h.obj i ≠ .dead := by
  cases ho : h.obj i with
  | flat ex e st l =>
    rw [ho] at hp
    cases st with
    | true => simp [plainO] at hp
    | false =>
      cases l with
      | nil => simp [plainO] at hp
      | cons x l =>
        obtain ⟨o, hb, r⟩ := I.obj i (by rw [ho]; simp)
        rw [ho] at r
        obtain ⟨c, fz, rfl, _, _, hle, _, _, _, hst⟩ := r
        rw [hst rfl] at hb
        exact ⟨c, e, hb, by simp at hle; omega, by simp⟩
  | _ => rw [ho] at hp; simp [plainO] at hp

theorem sameAddr_plain {a b : Addr} {c1 c2 : Array Value} {e1 e2 : TypeId} (ha : w.heap[a.block]? = some (.cells c1 e1 (0, 0))) (hb : w.heap[b.block]? = some (.cells c2 e2 (0, 0)))
    (h1 : 0 < c1.size) (h2 : 0 < c2.size) (hne : a.block ≠ b.block) : (sameAddr a b).run P w = .ok false w := by
  have n1 : (a.block == b.block) = false := by simpa using hne
  have f1 : w.frozen? a = false := by simp [World.frozen?, ha]
  have f2 : w.frozen? b = false := by simp [World.frozen?, hb]
  have s1 : w.shape? a.block = some (e1, c1.size) := by simp [World.shape?, ha]
  have s2 : w.shape? b.block = some (e2, c2.size) := by simp [World.shape?, hb]
  have g1 : w.frozen? ⟨a.block, c1.size, none⟩ = false := by simp [World.frozen?, ha]
  have g2 : w.frozen? ⟨b.block, c2.size, none⟩ = false := by simp [World.frozen?, hb]
  simp [sameAddr, n1, f1, f2, noView, viewAt, mayBeOne, stringish, s1, s2, g1, g2]

theorem equal_ptr (I : Inv P ν h w) {t el : TypeId} {n : Nat} (ht : P.underlying t = some (.pointer el)) (hs : szOf P el = some n) (hn : n ≠ 0) {a b : Option (Nat × Nat)} {va vb : Value}
    (ra : (AV.ptr a).rel ν h.next va) (rb : (AV.ptr b).rel ν h.next vb) {e : Bool} (he : eqA h a b = some e) : (Op.equal t va vb).run P w = .ok e w := by
  have hu := run_underlying (P := P) ht
  cases a with
  | none =>
    cases ra
    cases b with
    | none =>
      cases rb
      simp only [eqA, Option.some.injEq] at he; subst he
      rw [equal_eq, Op.equalIn]; simp [hu]
    | some b =>
      obtain ⟨_, rfl⟩ := rb
      simp only [eqA, Option.some.injEq] at he; subst he
      rw [equal_eq, Op.equalIn]; simp [hu]
  | some a =>
    obtain ⟨_, rfl⟩ := ra
    cases b with
    | none =>
      cases rb
      simp only [eqA, Option.some.injEq] at he; subst he
      rw [equal_eq, Op.equalIn]; simp [hu]
    | some b =>
      obtain ⟨_, rfl⟩ := rb
      have key : (sameAddr ⟨ν.blk a.1, a.2, none⟩ ⟨ν.blk b.1, b.2, none⟩).run P w = .ok e w := by
        simp only [eqA] at he
        cases hq : Nat.beq a.1 b.1 with
        | true =>
          have hq' := Nat.eq_of_beq_eq_true hq
          simp only [hq, cond_true, Option.some.injEq] at he
          subst he
          have e1 : Nat.beq a.2 b.2 = (a.2 == b.2) := by rw [Bool.eq_iff_iff, Nat.beq_eq, beq_iff_eq]
          rw [e1, hq']
          simp only [sameAddr, beq_self_eq_true, if_true, Sem.run_pure]
          congr 1
          rw [Bool.eq_iff_iff]
          simp
        | false =>
          simp only [hq, cond_false] at he
          obtain ⟨hp, rfl⟩ := cond_some he
          simp only [Bool.and_eq_true] at hp
          obtain ⟨c1, e1, b1, z1, l1⟩ := plain_block I hp.1
          obtain ⟨c2, e2, b2, z2, l2⟩ := plain_block I hp.2
          exact sameAddr_plain b1 b2 z1 z2 fun q => Nat.ne_of_beq_eq_false hq (I.inj _ _ l1 l2 q)
      rw [equal_eq, Op.equalIn]
      simp [hu, szOf_run hs, hn, key]

theorem equal_sl_nil {t el : TypeId} (ht : P.underlying t = some (.slice el)) {b : Option (Nat × Nat)} {l k l' k' : Nat} {x x' : Bool} {va vb : Value}
    (ra : (AV.slice none l k x).rel ν h.next va) (rb : (AV.slice b l' k' x').rel ν h.next vb) : (Op.equal t va vb).run P w = .ok b.isNone w := by
  obtain ⟨_, rfl⟩ := ra
  cases b with
  | none => obtain ⟨_, rfl⟩ := rb; rw [equal_eq, Op.equalIn]; simp [run_underlying ht]
  | some b => obtain ⟨_, _, rfl, _⟩ := rb; rw [equal_eq, Op.equalIn]; simp [run_underlying ht]
theorem equal_sl_some {t el : TypeId} (ht : P.underlying t = some (.slice el)) {a : Nat × Nat} {l k l' k' : Nat} {x x' : Bool} {va vb : Value}
    (ra : (AV.slice (some a) l k x).rel ν h.next va) (rb : (AV.slice none l' k' x').rel ν h.next vb) : (Op.equal t va vb).run P w = .ok false w := by
  obtain ⟨_, _, rfl, _⟩ := ra
  obtain ⟨_, rfl⟩ := rb
  rw [equal_eq, Op.equalIn]; simp [run_underlying ht]

theorem ok_binE (I : Inv P ν h w) {t : TypeId} {op : BinOp} {x y : AV} {vx vy : Value} (rx : x.rel ν h.next vx) (ry : y.rel ν h.next vy) {v : AV} (hv : binE (eqK P t) op h x y = some v) :
    (vx ≠ .nilIface ∧ ∀ cs, vx ≠ .agg cs) ∧ ∃ u, (binOp op t vx vy).run P w = .ok u w ∧ v.rel ν h.next u := by
  unfold binE at hv
  split at hv
  · rename_i k a k' b
    cases rx; cases ry
    refine ⟨⟨by simp, by simp⟩, ?_⟩
    cases hs : isSh op with
    | true => rw [hs] at hv; exact ok_shE hv t
    | false =>
      rw [hs] at hv
      simp only [cond_false] at hv
      obtain ⟨hk, hv'⟩ := cond_opt hv
      cases kEq_eq hk
      exact ok_binI hs hv' t
  · rename_i a b
    cases rx; cases ry
    refine ⟨⟨by simp, by simp⟩, ?_⟩
    unfold eqBool at hv
    split at hv
    · rename_i hq
      have ht : P.underlying t = some .bool := by
        unfold eqK at hq
        split at hq <;> first | assumption | (simp at hq; done) | (split at hq <;> simp at hq)
      exact binQ_run hv (equal_bool ht a b) rfl rfl
    · simp at hv
  · rename_i a b
    obtain ⟨sa, rfl, rfl⟩ := rx
    obtain ⟨sb, rfl, rfl⟩ := ry
    exact ⟨⟨by simp, by simp⟩, ok_binS hv t⟩
  · rename_i a b
    have hne : (vx ≠ .nilIface ∧ ∀ cs, vx ≠ .agg cs) := by
      cases a with
      | none => cases rx; exact ⟨by simp, by simp⟩
      | some a => obtain ⟨_, rfl⟩ := rx; exact ⟨by simp, by simp⟩
    refine ⟨hne, ?_⟩
    unfold eqPtr at hv
    split at hv
    · rename_i hq
      have ht : ∃ el n, P.underlying t = some (.pointer el) ∧ szOf P el = some n ∧ n ≠ 0 := by
        unfold eqK at hq
        split at hq
        · simp at hq
        · rename_i el hu
          split at hq
          · simp at hq
          · rename_i n hn hs
            exact ⟨el, n, hu, hs, fun e => hn (by rw [← e])⟩
          · simp at hq
        · simp at hq
        · simp at hq
      obtain ⟨el, n, ht, hs, hn⟩ := ht
      cases he : eqA h a b with
      | none => rw [he] at hv; simp [binQ'] at hv
      | some e =>
        rw [he] at hv
        have hr := equal_ptr I ht hs hn rx ry he
        cases a with
        | none =>
          cases rx
          cases b with
          | none => cases ry; exact binQ_run hv hr rfl rfl
          | some b => obtain ⟨_, rfl⟩ := ry; exact binQ_run hv hr rfl rfl
        | some a =>
          obtain ⟨_, rfl⟩ := rx
          cases b with
          | none => cases ry; exact binQ_run hv hr rfl rfl
          | some b => obtain ⟨_, rfl⟩ := ry; exact binQ_run hv hr rfl rfl
    · simp at hv
  · rename_i k k' b
    obtain ⟨a, rfl⟩ := rx
    cases ry
    refine ⟨⟨by simp, by simp⟩, ?_⟩
    cases hs : isSh op with
    | true => rw [hs] at hv; exact ok_shT hv t
    | false =>
      rw [hs] at hv
      simp only [cond_false] at hv
      obtain ⟨hk, hv'⟩ := cond_opt hv
      cases kEq_eq hk
      exact ok_topB hv' t
  · rename_i k a k'
    cases rx
    obtain ⟨b, rfl⟩ := ry
    obtain ⟨hk, hv'⟩ := cond_opt hv
    simp only [Bool.and_eq_true] at hk
    cases kEq_eq hk.1
    exact ⟨⟨by simp, by simp⟩, ok_topB hv' t⟩
  · rename_i k k'
    obtain ⟨a, rfl⟩ := rx
    obtain ⟨b, rfl⟩ := ry
    obtain ⟨hk, hv'⟩ := cond_opt hv
    simp only [Bool.and_eq_true] at hk
    cases kEq_eq hk.1
    exact ⟨⟨by simp, by simp⟩, ok_topB hv' t⟩
  · rename_i l k x b l' k' x'
    have hsl : ∀ {op : BinOp} {e : Bool}, eqSl (eqK P t) op e = some v → (∃ el, P.underlying t = some (.slice el)) ∧ binQ op e = some v := by
      intro op e hq
      unfold eqSl at hq
      split at hq
      · rename_i hk
        refine ⟨?_, hq⟩
        unfold eqK at hk
        split at hk
        · simp at hk
        · split at hk <;> simp at hk
        · rename_i el hu; exact ⟨el, hu⟩
        · simp at hk
      · simp at hq
    obtain ⟨⟨el, ht⟩, hv⟩ := hsl hv
    have hr := equal_sl_nil (w := w) ht rx ry
    obtain ⟨_, rfl⟩ := rx
    refine ⟨⟨by simp, by simp⟩, ?_⟩
    cases b with
    | none => obtain ⟨_, rfl⟩ := ry; exact binQ_run hv hr rfl rfl
    | some b => obtain ⟨_, _, rfl, _⟩ := ry; exact binQ_run hv hr rfl rfl
  · rename_i a l k x l' k' x'
    have hsl : ∀ {op : BinOp} {e : Bool}, eqSl (eqK P t) op e = some v → (∃ el, P.underlying t = some (.slice el)) ∧ binQ op e = some v := by
      intro op e hq
      unfold eqSl at hq
      split at hq
      · rename_i hk
        refine ⟨?_, hq⟩
        unfold eqK at hk
        split at hk
        · simp at hk
        · split at hk <;> simp at hk
        · rename_i el hu; exact ⟨el, hu⟩
        · simp at hk
      · simp at hq
    obtain ⟨⟨el, ht⟩, hv⟩ := hsl hv
    have hr := equal_sl_some (w := w) ht rx ry
    obtain ⟨_, _, rfl, _⟩ := rx
    obtain ⟨_, rfl⟩ := ry
    exact ⟨⟨by simp, by simp⟩, binQ_run hv hr rfl rfl⟩
  · rename_i k a b k' c
    obtain ⟨x, rfl, x1, x2⟩ := rx
    cases ry
    refine ⟨⟨by simp, by simp⟩, ?_⟩
    cases hs : isSh op with
    | true => rw [hs] at hv; exact ok_shR x1 x2 hv t
    | false => rw [hs] at hv; exact ok_binRR x1 x2 (Int.le_refl _) (Int.le_refl _) hv t
  · obtain ⟨y, rfl, y1, y2⟩ := ry
    cases rx
    exact ⟨⟨by simp, by simp⟩, ok_binRR (Int.le_refl _) (Int.le_refl _) y1 y2 hv t⟩
  · obtain ⟨x, rfl, x1, x2⟩ := rx
    obtain ⟨y, rfl, y1, y2⟩ := ry
    exact ⟨⟨by simp, by simp⟩, ok_binRR x1 x2 y1 y2 hv t⟩
  · obtain ⟨x, rfl, x1, x2⟩ := rx
    obtain ⟨y, rfl, rfl⟩ := ry
    exact ⟨⟨by simp, by simp⟩, ok_binSU x1 x2 (by simp) (by simp) hv t⟩
  · obtain ⟨x, rfl, rfl⟩ := rx
    obtain ⟨y, rfl, y1, y2⟩ := ry
    exact ⟨⟨by simp, by simp⟩, ok_binSU (by simp) (by simp) y1 y2 hv t⟩
  · obtain ⟨x, rfl, x1, x2⟩ := rx
    obtain ⟨y, rfl, y1, y2⟩ := ry
    exact ⟨⟨by simp, by simp⟩, ok_binSU x1 x2 y1 y2 hv t⟩
  · have hsl : ∀ {op : BinOp} {e : Bool}, eqSl (eqK P t) op e = some v → (∃ el, P.underlying t = some (.slice el)) ∧ binQ op e = some v := by
      intro op e hq
      unfold eqSl at hq
      split at hq
      · rename_i hk
        refine ⟨?_, hq⟩
        unfold eqK at hk
        split at hk
        · simp at hk
        · split at hk <;> simp at hk
        · rename_i el hu; exact ⟨el, hu⟩
        · simp at hk
      · simp at hq
    obtain ⟨⟨el, ht⟩, hv⟩ := hsl hv
    obtain ⟨_, o, len, cap, rfl, -⟩ := rx
    obtain ⟨_, rfl⟩ := ry
    exact ⟨⟨by simp, by simp⟩, binQ_run (e := false) hv (by rw [equal_eq, Op.equalIn]; simp [run_underlying ht]) rfl rfl⟩
  · have hsl : ∀ {op : BinOp} {e : Bool}, eqSl (eqK P t) op e = some v → (∃ el, P.underlying t = some (.slice el)) ∧ binQ op e = some v := by
      intro op e hq
      unfold eqSl at hq
      split at hq
      · rename_i hk
        refine ⟨?_, hq⟩
        unfold eqK at hk
        split at hk
        · simp at hk
        · split at hk <;> simp at hk
        · rename_i el hu; exact ⟨el, hu⟩
        · simp at hk
      · simp at hq
    obtain ⟨⟨el, ht⟩, hv⟩ := hsl hv
    obtain ⟨_, rfl⟩ := rx
    obtain ⟨_, o, len, cap, rfl, -⟩ := ry
    exact ⟨⟨by simp, by simp⟩, binQ_run (e := false) hv (by rw [equal_eq, Op.equalIn]; simp [run_underlying ht]) rfl rfl⟩
  · have hsl : ∀ {op : BinOp} {e : Bool}, eqSl (eqK P t) op e = some v → (∃ el, P.underlying t = some (.slice el)) ∧ binQ op e = some v := by
      intro op e hq
      unfold eqSl at hq
      split at hq
      · rename_i hk
        refine ⟨?_, hq⟩
        unfold eqK at hk
        split at hk
        · simp at hk
        · split at hk <;> simp at hk
        · rename_i el hu; exact ⟨el, hu⟩
        · simp at hk
      · simp at hq
    obtain ⟨hb, hv1⟩ := cond_opt hv
    have hb := Nat.le_of_ble_eq_true hb
    obtain ⟨⟨el, ht⟩, hv2⟩ := hsl hv1
    rcases rx with ⟨q0, _⟩ | ⟨_, o, len, cap, cs, el', fz, rfl, -⟩
    · omega
    obtain ⟨_, rfl⟩ := ry
    exact ⟨⟨by simp, by simp⟩, binQ_run (e := false) hv2 (by rw [equal_eq, Op.equalIn]; simp [run_underlying ht]) rfl rfl⟩
  · have hsl : ∀ {op : BinOp} {e : Bool}, eqSl (eqK P t) op e = some v → (∃ el, P.underlying t = some (.slice el)) ∧ binQ op e = some v := by
      intro op e hq
      unfold eqSl at hq
      split at hq
      · rename_i hk
        refine ⟨?_, hq⟩
        unfold eqK at hk
        split at hk
        · simp at hk
        · split at hk <;> simp at hk
        · rename_i el hu; exact ⟨el, hu⟩
        · simp at hk
      · simp at hq
    obtain ⟨hb, hv1⟩ := cond_opt hv
    have hb := Nat.le_of_ble_eq_true hb
    obtain ⟨⟨el, ht⟩, hv2⟩ := hsl hv1
    obtain ⟨_, rfl⟩ := rx
    rcases ry with ⟨q0, _⟩ | ⟨_, o, len, cap, cs, el', fz, rfl, -⟩
    · omega
    exact ⟨⟨by simp, by simp⟩, binQ_run (e := false) hv2 (by rw [equal_eq, Op.equalIn]; simp [run_underlying ht]) rfl rfl⟩
  · simp at hv

theorem ok_bin (op : BinOp) (t u : TypeId) (x y : Operand) : SoundR P (.binOp op t x y u) (F_bin (eqK P t) op (c x) (c y)) c := by
  intro ν h w ρA ρ T hT I R out e
  obtain ⟨v, hv, rfl⟩ := valE_some e
  have hv' : (bif isT (ρA (c x)) || isT (ρA (c y)) then binE (eqK P t) op h (untag (ρA (c x))) (untag (ρA (c y))) else binE (eqK P t) op h (ρA (c x)) (ρA (c y))) = some v := hv
  cases hb : (isT (ρA (c x)) || isT (ρA (c y))) with
  | true =>
    rw [hb] at hv'
    obtain ⟨⟨h1, h2⟩, r, hr, x⟩ := ok_binE I (untag_rel (R x)) (untag_rel (R y)) hv'
    exact ResR.val (execBin hT h1 h2 hr) x
  | false =>
    rw [hb] at hv'
    obtain ⟨⟨h1, h2⟩, r, hr, x⟩ := ok_binE I (R x) (R y) hv'
    exact ResR.val (execBin hT h1 h2 hr) x

theorem ok_unE {op : UnOp} {x : AV} {vx : Value} (rx : x.rel ν h.next vx) {v : AV} (hv : unE op x = some v) : ∃ u, (Op.unary op vx).run P w = .ok u w ∧ v.rel ν h.next u := by
  unfold unE at hv
  split at hv
  · cases rx
    simp only [Option.some.injEq] at hv
    subst hv
    exact ⟨_, rfl, by rw [wrapE_eq]; rfl⟩
  · cases rx
    simp only [Option.some.injEq] at hv
    subst hv
    exact ⟨_, rfl, by rw [wrapE_eq]; rfl⟩
  · obtain ⟨n, rfl⟩ := rx
    simp only [Option.some.injEq] at hv
    subst hv
    exact ⟨_, rfl, ⟨_, rfl⟩⟩
  · cases rx
    simp only [Option.some.injEq] at hv
    subst hv
    exact ⟨_, rfl, rfl⟩
  · simp at hv

theorem ok_un (op : UnOp) (t : TypeId) (x : Operand) : Sound P (.unOp op t x) (F_un op (c x)) c := by
  intro ν h w ρA ρ T hT I R out e
  obtain ⟨v, hv, rfl⟩ := valE_some e
  obtain ⟨u, hr, x⟩ := ok_unE (P := P) (w := w) (R x) hv
  exact Res.val I (by simp [execOp, hT, hr]) x

end Go.Ev
