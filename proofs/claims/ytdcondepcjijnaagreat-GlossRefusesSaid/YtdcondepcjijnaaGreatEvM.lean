/-
  THE EVALUATOR IS RIGHT, eleventh text: least and greatest; maps that are written; what is cleared. Then all operations in one law.
-/
import Derived.Test.YtdcondepcjijnaaGreatEvL
namespace Go.Ev
open Go

variable {P : Program} {ν : V} {h : Heap} {w : World} {ρA : MO → AV} {ρ : Operand → Value} {c : Operand → MO}

theorem minE_run (lt : Bool) : ∀ (l : List AV) (x : AV) (vx : Value) (vs : List Value) (v : AV), x.rel ν h.next vx → relL ν h.next l vs → minE lt x l = some v →
    ∃ u, (vs.foldlM (if lt then Builtin.min2 else Builtin.max2) vx).run P w = .ok u w ∧ v.rel ν h.next u
  | [], x, vx, vs, v, rx, rl, hm => by
    cases rl
    have : x = v := by cases x <;> simpa [minE] using hm
    subst this
    exact ⟨vx, by simp, rx⟩
  | y :: l, x, vx, vs, v, rx, rl, hm => by
    obtain ⟨vy, s, rfl, ry, rs⟩ := rl
    cases x <;> cases y <;> simp only [minE, reduceCtorEq] at hm
    rename_i k a k' b
    obtain ⟨hk, hm'⟩ := cond_opt hm
    cases kEq_eq hk
    cases rx
    cases ry
    have hstep : ((if lt then Builtin.min2 else Builtin.max2) (.int k a) (.int k b)).run P w = .ok (.int k (if lt then (if b < a then b else a) else (if a < b then b else a))) w := by
      cases lt <;> simp [Builtin.min2, Builtin.max2]
    have hrel : (min2E lt k a b).rel ν h.next (.int k (if lt then (if b < a then b else a) else (if a < b then b else a))) := by
      unfold min2E
      rw [ltI_eq, ltI_eq]
      cases lt
      · by_cases q : a < b <;> simp [q, AV.rel]
      · by_cases q : b < a <;> simp [q, AV.rel]
    obtain ⟨u, hu, x⟩ := minE_run lt l _ _ s v hrel rs hm'
    exact ⟨u, by simp [List.foldlM_cons, hstep, hu], x⟩

theorem minT_cases {lt : Bool} {l : List AV} {v : AV} (h : minT lt l = some v) :
    minO lt l = some v ∨ ∃ k x a b i c, l = [.int k (.ofNat x), .rngT k a b i c] ∧ lt = false ∧ v = .rngT k (maxI (.ofNat x) a) (maxI (.ofNat x) b) i (Nat.max c x) := by
  unfold minT at h
  split at h
  · rename_i k x k' a b i c
    obtain ⟨hb, rfl⟩ := cond_some h
    simp only [Bool.and_eq_true, Bool.not_eq_true'] at hb
    cases kEq_eq hb.2
    exact .inr ⟨k, x, a, b, i, c, rfl, hb.1, rfl⟩
  · exact .inl h
theorem maxI_eq (x y : Int) : maxI x y = if x < y then y else x := by
  unfold maxI
  rw [ltI_eq]
  by_cases q : x < y <;> simp [q]

theorem ok_min (lt : Bool) (args : Array Operand) (ts : Array TypeId) : Sound P (.call { callee := .builtin (if lt then .min else .max), args, argTypes := ts }) (F_min lt (args.toList.map c)) c := by
  intro ν h w ρA ρ T hT I R out e
  rw [execBuiltin hT]
  obtain ⟨v, hv, rfl⟩ := valE_some e
  rw [List.map_map] at hv
  have ra : relL ν h.next (args.toList.map (ρA ∘ c)) (args.toList.map ρ) := relL_map _ _ args.toList fun x _ => R x
  rcases minT_cases hv with hv0 | ⟨k, x, a, b, i, cc, hl, rfl, rfl⟩
  rotate_left
  · rw [hl] at ra
    obtain ⟨v0, s, hs, r0, v1, s1, hs1, r1, hs2⟩ := ra
    cases hs2
    subst hs1
    cases r0
    obtain ⟨hi, m, rfl, m1, m2, m3⟩ := r1
    have hv1 : args.toList.map ρ = [.int k (.ofNat x), .int k m] := hs
    refine Res.val I (u := .int k (if (.ofNat x : Int) < m then m else .ofNat x)) ?_ ⟨hi, _, rfl, ?_, ?_, ?_⟩
    · simp only [Bool.false_eq_true, if_false]
      obtain ⟨y1, y2, hl', e1, e2⟩ : ∃ y1 y2, args.toList = [y1, y2] ∧ ρ y1 = .int k (.ofNat x) ∧ ρ y2 = .int k m := by
        match hq : args.toList, hv1 with
        | [y1, y2], hv1 => simp at hv1; exact ⟨y1, y2, rfl, hv1.1, hv1.2⟩
        | [], hv1 => simp at hv1
        | [_], hv1 => simp at hv1
        | _ :: _ :: _ :: _, hv1 => simp at hv1
      simp [builtin, Builtin.max_, hl', e1, e2, Builtin.max2]
    · rw [maxI_eq]; split <;> split <;> omega
    · rw [maxI_eq]; split <;> split <;> omega
    · have e1 : ((ν.len i + cc : Nat) : Int) ≤ ((ν.len i + Nat.max cc x : Nat) : Int) := by
        have : cc ≤ Nat.max cc x := Nat.le_max_left _ _
        omega
      have e2 : (Int.ofNat x) ≤ ((ν.len i + Nat.max cc x : Nat) : Int) := by
        have : x ≤ Nat.max cc x := Nat.le_max_right _ _
        show ((x : Nat) : Int) ≤ _
        omega
      split <;> omega
  have hv := hv0
  cases hl : args.toList with
  | nil => simp [hl, minO] at hv
  | cons x r =>
    rw [hl] at hv ra
    simp only [List.map_cons, minO] at hv ra
    obtain ⟨v0, s, hs, r0, rs⟩ := ra
    simp only [List.cons.injEq] at hs
    obtain ⟨rfl, rfl⟩ := hs
    obtain ⟨u, hu, x⟩ := minE_run (P := P) (w := w) lt _ _ _ _ v r0 rs hv
    refine Res.val I (u := u) ?_ x
    cases lt with
    | true =>
      simp only [if_true] at hu ⊢
      simp [builtin, Builtin.min_, hl, hu]
    | false =>
      simp only [Bool.false_eq_true, if_false] at hu ⊢
      simp [builtin, Builtin.max_, hl, hu]

/-! Maps that are written -/

theorem map_set (I : Inv P ν h w) {r : Nat} {es es' : List (AV × AV × Nat)} {k k' : Nat} {l' : Array MapEntry} (ho : h.obj r = .map es k) (re : entRel ν h.next es' l'.toList) :
    (setObj (ν.blk r) (.map l' k')).run P w = .ok () { w with heap := w.heap.setIfInBounds (ν.blk r) (.map l' k') } ∧ Step P ν h w ν (h.set r (.map es' k')) { w with heap := w.heap.setIfInBounds (ν.blk r) (.map l' k') } := by
  obtain ⟨l, hb, _⟩ := map_obj I ho
  have hlt := (Array.getElem?_eq_some_iff.1 hb).1
  refine ⟨by simp only [setObj, Sem.run, hb], ?_⟩
  exact Step.set I (by rw [ho]; simp) (o := .map l' k') (by simp [hlt]) ⟨l', rfl, re⟩ (by simp) (fun q hq => by simp only [Array.getElem?_setIfInBounds]; rw [if_neg (fun q' => hq q'.symm)]) rfl rfl rfl

theorem entRel_append {n : Nat} {es : List (AV × AV × Nat)} {l : List MapEntry} {a b : AV} {va vb : Value} {k : Nat} (h1 : a.rel ν n va) (h2 : b.rel ν n vb) : entRel ν n es l → entRel ν n (es ++ [(a, b, k)]) (l ++ [⟨va, vb, k⟩]) := by
  induction es generalizing l with
  | nil => intro h; cases h; exact ⟨_, [], rfl, h1, h2, rfl, rfl⟩
  | cons e es ih => rintro ⟨e', s, rfl, x, y, z, r⟩; exact ⟨e', _, rfl, x, y, z, ih r⟩

theorem entRel_modify {n : Nat} {es : List (AV × AV × Nat)} {l : List MapEntry} {a b : AV} {va vb : Value} (h1 : a.rel ν n va) (h2 : b.rel ν n vb) (i : Nat) : entRel ν n es l → entRel ν n (es.modify i fun e => (a, b, e.2.2)) (l.modify i fun e => { e with key := va, val := vb }) := by
  induction es generalizing l i with
  | nil => intro h; cases h; simp [entRel]
  | cons e es ih =>
    rintro ⟨e', s, rfl, x, y, z, r⟩
    cases i with
    | zero => exact ⟨_, s, rfl, h1, h2, z, r⟩
    | succ i => simp only [List.modify_succ_cons]; exact ⟨e', _, rfl, x, y, z, ih i r⟩

theorem entRel_erase {n : Nat} {es : List (AV × AV × Nat)} {l : List MapEntry} (i : Nat) : entRel ν n es l → entRel ν n (es.eraseIdx i) (l.eraseIdx i) := by
  induction es generalizing l i with
  | nil => intro h; cases h; simp [entRel]
  | cons e es ih =>
    rintro ⟨e', s, rfl, x, y, z, r⟩
    cases i with
    | zero => exact r
    | succ i => simp only [List.eraseIdx_cons_succ]; exact ⟨e', _, rfl, x, y, z, ih i r⟩

theorem findKey_run {n : Nat} {kt : TypeId} {k : AV} {vk : Value} (rk : k.rel ν n vk) (hk : keyOk (kyK P kt) k = true) {es : List (AV × AV × Nat)} {l : List MapEntry} {r : Option (Nat × AV)} (he : entRel ν n es l) (hf : findE k es 0 = some r) (w : World) :
    (∀ b, (Instr.checkKey b 10000 kt vk).run P w = .ok () w) ∧
    (match r with
    | none => (Instr.findKey kt vk l).run P w = .ok none w
    | some p => ∃ u, (Instr.findKey kt vk l).run P w = .ok (some (p.1, u)) w ∧ ∃ e, l[p.1]? = some e ∧ Instr.sameBits 10000 e.key vk = true) := by
  obtain ⟨d, hd, hck, hfind⟩ := find_rel (P := P) rk hk
  refine ⟨fun b => hck b w, ?_⟩
  have := hfind es l 0 r he hf
  cases r with
  | none => simp only at this ⊢; simp [Instr.findKey, run_underlying hd, this]
  | some p =>
    obtain ⟨u, g1, g2, e, g3, -, g5⟩ := this
    exact ⟨u, by simp [Instr.findKey, run_underlying hd, g1], e, by simpa using g3, g5⟩

theorem ok_mup (t kt el : TypeId) (m k x : Operand) (hu : P.underlying t = some (.map kt el)) : Sound P (.mapUpdate t m k x) (F_mup (kyK P kt) (c m) (c k) (c x)) c := by
  intro ν h w ρA ρ T hT I R out e
  obtain ⟨hk, e⟩ := cond_opt e
  obtain ⟨h', hh, rfl⟩ := skipE_some e
  have rm := R m
  generalize ham : ρA (c m) = am at hh rm
  unfold mup3 at hh
  split at hh
  · rename_i r
    cases ho : h.obj r with
    | map es clock =>
      simp only [ho, mup2] at hh
      obtain ⟨l, hb, re⟩ := map_obj I ho
      obtain ⟨_, hm⟩ := rm
      cases hf : findE (ρA (c k)) es 0 with
      | none => simp [hf, mupE] at hh
      | some q =>
        obtain ⟨hck, hfk⟩ := findKey_run (P := P) (R k) hk re hf w
        cases q with
        | none =>
          simp only [hf, mupE, Option.some.injEq] at hh
          subst hh
          simp only at hfk
          obtain ⟨hr, st⟩ := map_set (P := P) I ho (k' := clock + 1) (l' := l.push ⟨ρ k, ρ x, clock⟩) (by simpa using entRel_append (k := clock) (R k) (R x) re)
          refine ⟨_, ν, ?_, st⟩
          simp [execOp, hT, hm, Instr.mapUpdate, run_underlying hu, getObj_map hb, hck, hfk, hr]
        | some p =>
          simp only [hf, mupE, Option.some.injEq] at hh
          subst hh
          obtain ⟨u, g1, e0, g2, g3⟩ := hfk
          obtain ⟨hr, st⟩ := map_set (P := P) I ho (k' := clock) (l' := l.modify p.1 fun e => { e with key := ρ k, val := ρ x }) (by simpa using entRel_modify (R k) (R x) p.1 re)
          refine ⟨_, ν, ?_, st⟩
          have g2' : l[p.1]? = some e0 := by simpa using g2
          have hkey : (Instr.keyThatStays e0.key (ρ k)).run P w = .ok (ρ k) w := by simp [Instr.keyThatStays, g3]
          simp [execOp, hT, hm, Instr.mapUpdate, run_underlying hu, getObj_map hb, hck, g1, g2', hkey, hr]
    | _ => rw [ho] at hh; simp [mup2] at hh
  · simp at hh

theorem ok_del (t kt el : TypeId) (ts : List TypeId) (m k : Operand) (hu : P.underlying t = some (.map kt el)) : Sound P (.call { callee := .builtin .delete, args := #[m, k], argTypes := (t :: ts).toArray }) (F_del (kyK P kt) (c m) (c k)) c := by
  intro ν h w ρA ρ T hT I R out e
  rw [execBuiltin hT]
  obtain ⟨hk, e⟩ := cond_opt e
  obtain ⟨h', hh, rfl⟩ := unitE_some e
  have rm := R m
  generalize ham : ρA (c m) = am at hh rm
  unfold del3 at hh
  split at hh
  · rename_i r
    cases ho : h.obj r with
    | map es clock =>
      simp only [ho, del2] at hh
      obtain ⟨l, hb, re⟩ := map_obj I ho
      obtain ⟨_, hm⟩ := rm
      cases hf : findE (ρA (c k)) es 0 with
      | none => simp [hf, delE] at hh
      | some q =>
        obtain ⟨hck, hfk⟩ := findKey_run (P := P) (R k) hk re hf w
        cases q with
        | none =>
          simp only [hf, delE, Option.some.injEq] at hh
          subst hh
          simp only at hfk
          obtain ⟨hr, st⟩ := map_set (P := P) I ho (k' := clock) (l' := l) re
          refine ⟨.tuple #[], _, ν, ?_, st, #[], rfl, rfl⟩
          simp [builtin, hm, Builtin.delete_, run_underlying hu, getObj_map hb, hck, hfk, hr]
        | some p =>
          simp only [hf, delE, Option.some.injEq] at hh
          subst hh
          obtain ⟨u, g1, e0, g2, g3⟩ := hfk
          obtain ⟨hr, st⟩ := map_set (P := P) I ho (k' := clock) (l' := l.eraseIdxIfInBounds p.1) (by simpa using entRel_erase p.1 re)
          refine ⟨.tuple #[], _, ν, ?_, st, #[], rfl, rfl⟩
          simp [builtin, hm, Builtin.delete_, run_underlying hu, getObj_map hb, hck, g1, hr]
    | _ => rw [ho] at hh; simp [del2] at hh
  · simp at hh

theorem ok_clrM (t kt el : TypeId) (x : Operand) (hu : P.underlying t = some (.map kt el)) : Sound P (.call { callee := .builtin .clear, args := #[x], argTypes := #[t] }) (F_clrM (c x)) c := by
  intro ν h w ρA ρ T hT I R out e
  rw [execBuiltin hT]
  obtain ⟨h', hh, rfl⟩ := unitE_some e
  have rx := R x
  generalize hax : ρA (c x) = ax at hh rx
  unfold clrMV at hh
  split at hh
  · simp only [Option.some.injEq] at hh
    subst hh
    have hx : ρ x = .map none := rx
    exact Res.val I (u := .tuple #[]) (by simp [builtin, hx, Builtin.clear_, run_underlying hu]) ⟨#[], rfl, rfl⟩
  · rename_i r
    obtain ⟨_, hx⟩ := rx
    cases ho : h.obj r with
    | map es clock =>
      simp only [ho, clrM, Option.some.injEq] at hh
      subst hh
      obtain ⟨l, hb, re⟩ := map_obj I ho
      obtain ⟨hr, st⟩ := map_set (P := P) I ho (k' := clock) (l' := #[]) (es' := []) rfl
      refine ⟨.tuple #[], _, ν, ?_, st, #[], rfl, rfl⟩
      simp [builtin, hx, Builtin.clear_, run_underlying hu, getObj_map hb, hr]
    | _ => rw [ho] at hh; simp [clrM] at hh
  · simp at hh

theorem zeroCells_list (z : Array Value) (n : Nat) : (Builtin.zeroCells z n).toList = (List.replicate n z.toList).flatten := by
  rcases Nat.eq_zero_or_pos z.size with q | q
  · have hz : z = #[] := Array.eq_empty_of_size_eq_zero q
    subst hz
    simp [Builtin.zeroCells]
  · exact made_eq z q n

theorem ok_clrS (t el : TypeId) (x : Operand) (hu : P.underlying t = some (.slice el)) {z : AV} (hz : zeroOf P el = some z) : Sound P (.call { callee := .builtin .clear, args := #[x], argTypes := #[t] }) (F_clrS z.cells (c x)) c := by
  intro ν h w ρA ρ T hT I R out e
  rw [execBuiltin hT]
  obtain ⟨h', hh, rfl⟩ := unitE_some e
  obtain ⟨i, vz, hi, hvz, rfl⟩ := zeroOf_info hz
  have hzero : (zeroValue el).run P w = .ok vz w := by simp [zeroValue, typeInfo, hi, hvz]
  have rx := R x
  generalize hax : ρA (c x) = ax at hh rx
  unfold clrSV at hh
  split at hh
  · simp only [Option.some.injEq] at hh
    subst hh
    obtain ⟨_, hx⟩ := rx
    exact Res.val I (u := .tuple #[]) (by simp [builtin, hx, Builtin.clear_, run_underlying hu]) ⟨#[], rfl, rfl⟩
  · rename_i a n k ex
    obtain ⟨_, k', hx, _⟩ := rx
    cases hn : Nat.beq n 0 with
    | true =>
      have hn := Nat.eq_of_beq_eq_true hn
      subst hn
      simp only [Nat.beq_refl, cond_true, Option.some.injEq] at hh
      subst hh
      exact Res.val I (u := .tuple #[]) (by simp [builtin, hx, Builtin.clear_, run_underlying hu]) ⟨#[], rfl, rfl⟩
    | false =>
      simp only [hn, cond_false] at hh
      have hn := Nat.ne_of_beq_eq_false hn
      have rr := relL_flatten (cells_ofValue (ν := ν) h.next vz) n
      rw [← zeroCells_list] at rr
      obtain ⟨w', hr, st⟩ := storeN_run (P := P) I rr (fun q => by simp at q) hh
      refine ⟨.tuple #[], w', ν, ?_, st, #[], rfl, rfl⟩
      cases n with
      | zero => exact absurd rfl hn
      | succ n => simp [builtin, hx, Builtin.clear_, run_underlying hu, hzero, hr]
  · simp at hh

theorem arr1 {α : Type} {a : Array α} {x : α} (h : a.toList = [x]) : a = #[x] := Array.ext' (by simpa using h)
theorem arr2 {α : Type} {a : Array α} {x y : α} (h : a.toList = [x, y]) : a = #[x, y] := Array.ext' (by simpa using h)
theorem arrC {α : Type} {a : Array α} {x : α} {l : List α} (h : a.toList = x :: l) : a = (x :: l).toArray := Array.ext' (by simpa using h)

theorem cmpBlt_sound {b : Builtin} {ts : Array TypeId} {args : Array Operand} {f : OpF} (hf : cmpBlt P c b ts.toList args.toList = some f) :
    Sound P (.call { callee := .builtin b, args, argTypes := ts }) f c := by
  unfold cmpBlt at hf
  split at hf
  · rename_i t x ht ha
    cases arr1 ht; cases arr1 ha
    simp only [Option.some.injEq] at hf
    subst hf
    exact (ok_len t x).sound
  · rename_i t x ht ha
    cases arr1 ht; cases arr1 ha
    split at hf
    · rename_i el hu
      simp only [Option.some.injEq] at hf
      subst hf
      exact ok_cap t el x hu
    · simp at hf
  · rename_i t u s x ht ha
    cases arr2 ht; cases arr2 ha
    split at hf
    · simp at hf
    · rename_i d p hne hud hp
      split at hf
      · rename_i i z hi hz
        obtain ⟨hok, hf⟩ := cond_some hf
        subst hf
        exact ok_app t u s x hud (fun k q => hne k q) hp hi hz hok
      · simp at hf
    · simp at hf
  · rename_i t ts' d s ht ha
    cases arrC ht; cases arr2 ha
    cases hp : elemSz P t with
    | none => simp [hp] at hf
    | some p =>
      simp only [hp, Option.some.injEq] at hf
      subst hf
      exact ok_cpy t ts' d s hp
  · simp only [Option.some.injEq] at hf
    subst hf
    exact ok_min true args ts
  · simp only [Option.some.injEq] at hf
    subst hf
    exact ok_min false args ts
  · rename_i t ts' m k ht ha
    cases arrC ht; cases arr2 ha
    split at hf
    · rename_i kt el hu
      simp only [Option.some.injEq] at hf
      subst hf
      exact ok_del t kt el ts' m k hu
    · simp at hf
  · rename_i t x ht ha
    cases arr1 ht; cases arr1 ha
    split at hf
    · rename_i kt el hu
      simp only [Option.some.injEq] at hf
      subst hf
      exact ok_clrM t kt el x hu
    · rename_i el hu
      cases hz : zeroOf P el with
      | none => simp [hz] at hf
      | some z =>
        simp only [hz, Option.some.injEq] at hf
        subst hf
        exact ok_clrS t el x hu hz
    · simp at hf
  · simp at hf

/-! Walks over maps and texts -/

theorem run_choose_one (w : World) {q : Question} (hq : q.forced = true) : (choose q).run P w = .ok 0 w := by simp [run_choose, hq]

theorem new_obj (I : Inv P ν h w) (a : AObj) (o : Obj) (r : ObjRel P (ν.upd h.next w.heap.size 0 0) (h.next + 1) h.next a o) : Step P ν h w (ν.upd h.next w.heap.size 0 0) (h.new a) (w.alloc o) := Step.new I a o 0 0 w.drawn r

theorem rgK_spec {t : TypeId} : ∀ {k : RgK}, rgK P t = k → (k = .str → P.underlying t = some .string) ∧ (k = .map → ∃ a b, P.underlying t = some (.map a b)) := by
  intro k hk
  unfold rgK at hk
  split at hk
  · subst hk; exact ⟨fun _ => by assumption, fun q => by simp at q⟩
  · subst hk; exact ⟨fun q => by simp at q, fun _ => ⟨_, _, by assumption⟩⟩
  · subst hk; exact ⟨fun q => by simp at q, fun q => by simp at q⟩

theorem ok_range (t : TypeId) (x : Operand) : Sound P (.range t x) (F_range (rgK P t) (c x)) c := by
  intro ν h w ρA ρ T hT I R out e
  have rx := R x
  have e' : rangeE h (rgK P t) (ρA (c x)) = some out := e
  obtain ⟨s1, s2⟩ := rgK_spec (P := P) (t := t) rfl
  generalize ρA (c x) = ax at e' rx
  have fin : ∀ {a : AObj} {it : Obj}, (Instr.range t (ρ x)).run P w = .ok (.pointer (some ⟨w.heap.size, 0, none⟩)) (w.alloc it) → ObjRel P (ν.upd h.next w.heap.size 0 0) (h.next + 1) h.next a it → a ≠ .dead → out = .val (.ptr (some (h.next, 0))) (h.new a) → Res P ν h w ((execOp ρ T).run P w) out := by
    rintro a it hr ra ha rfl
    have st := new_obj (P := P) I a it ra
    exact ⟨.pointer (some ⟨w.heap.size, 0, none⟩), _, _, by simp [execOp, hT, hr], st, st.has_new ha, by simp⟩
  unfold rangeE at e'
  split at e'
  · rename_i s hk
    obtain ⟨b, hx, hb⟩ := rx
    have hu := s1 hk
    exact fin (a := .sIter s 0) (by simp [Instr.range, hx, run_underlying hu]) ⟨b, rfl, hb⟩ (by simp) (Option.some.inj e').symm
  · rename_i hk
    have hx : ρ x = .map none := rx
    obtain ⟨_, _, hu⟩ := s2 hk
    exact fin (a := .mIter none 0 [] 0) (it := .mapIter none 0 #[] 0) (by simp [Instr.range, hx, run_underlying hu]) ⟨rfl, fun r q => by simp at q⟩ (by simp) (Option.some.inj e').symm
  · rename_i r hk
    obtain ⟨hhas, hx⟩ := rx
    obtain ⟨_, _, hu⟩ := s2 hk
    cases ho : h.obj r <;> rw [ho] at e' <;> simp only [rangeM, reduceCtorEq, Option.some.injEq] at e'
    rename_i es k
    obtain ⟨l, hb, _⟩ := map_obj I ho
    have hne : r ≠ h.next := by have := hhas.1; omega
    refine fin (a := .mIter (some r) k [] k) (it := .mapIter (some (ν.blk r)) k #[] k) (by simp [Instr.range, hx, run_underlying hu, getObj_map hb]) ⟨by simp [V.upd_ne _ _ _ _ _ hne], fun r' q => by cases q; exact ⟨by have := hhas.1; omega, .inr hhas.2⟩⟩ (by simp) e'.symm
  · simp at e'

theorem left_rel {n : Nat} (seen : List Nat) : ∀ {es : List (AV × AV × Nat)} {l : List MapEntry}, entRel ν n es l → entRel ν n (leftE seen es) (l.filter fun e => !seen.toArray.contains e.born)
  | [], _, r => by cases r; rfl
  | e :: es, _, ⟨x, s, hl, r1, r2, r3, r4⟩ => by
    subst hl
    have ih := left_rel seen r4
    have hc : seen.toArray.contains x.born = seen.any (Nat.beq e.2.2) := by
      rw [r3, Bool.eq_iff_iff]
      simp only [List.contains_toArray, List.contains_iff_mem, List.any_eq_true, Nat.beq_eq]
      exact ⟨fun q => ⟨_, q, rfl⟩, fun ⟨y, hy, e⟩ => e ▸ hy⟩
    unfold leftE at ih ⊢
    rw [List.filter_cons, List.filter_cons, hc]
    cases seen.any (Nat.beq e.2.2) with
    | true => exact ih
    | false => exact ⟨x, _, rfl, r1, r2, r3, ih⟩

theorem set_iter (I : Inv P ν h w) {i : Nat} {a a' : AObj} {o o' : Obj} (ha : h.obj i = a) (had : a ≠ .dead) (hb : w.heap[ν.blk i]? = some o) (hnc : ∀ c e f, o ≠ .cells c e f) (r : ObjRel P ν h.next i a' o') :
    (setObj (ν.blk i) o').run P w = .ok () { w with heap := w.heap.setIfInBounds (ν.blk i) o' } ∧ Step P ν h w ν (h.set i a') { w with heap := w.heap.setIfInBounds (ν.blk i) o' } := by
  have hlt := (Array.getElem?_eq_some_iff.1 hb).1
  refine ⟨by cases o <;> first | exact absurd rfl (hnc _ _ _) | simp only [setObj, Sem.run, hb], ?_⟩
  exact Step.set I (by rw [ha]; exact had) (o := o') (by simp [hlt]) r (by simp) (fun q hq => by simp only [Array.getElem?_setIfInBounds]; rw [if_neg (fun q' => hq q'.symm)]) rfl rfl rfl

theorem getObj_any {r : Nat} {o : Obj} (hb : w.heap[r]? = some o) (hnc : ∀ c e f, o ≠ .cells c e f) : (getObj r).run P w = .ok o w := by
  cases o <;> first | exact absurd rfl (hnc _ _ _) | simp only [getObj, Sem.run, hb]

theorem all_rel {n last : Nat} : ∀ {es : List (AV × AV × Nat)} {l : List MapEntry}, entRel ν n es l → (l.all fun x => decide (x.born ≥ last)) = es.all fun e => Nat.ble last e.2.2
  | [], _, r => by cases r; rfl
  | e :: es, _, ⟨x, s, hl, r1, r2, r3, r4⟩ => by
    subst hl
    rw [List.all_cons, List.all_cons, all_rel r4, r3]
    congr 1
    rw [Bool.eq_iff_iff, decide_eq_true_eq, Nat.ble_eq]

theorem ok_next (x : Operand) (b : Bool) : Sound P (.next x b) (F_next (c x) b) c := by
  intro ν h w ρA ρ T hT I R out e
  have rx := R x
  have e' : nextE h b (ρA (c x)) = some out := e
  generalize ρA (c x) = ax at e' rx
  unfold nextE at e'
  split at e'
  · rename_i i
    obtain ⟨hhas, hx⟩ := rx
    have same : ∀ {v : AV} {u : Value}, (Instr.next (ρ x) b T.type).run P w = .ok u w → v.rel ν h.next u → out = .val v h → Res P ν h w ((execOp ρ T).run P w) out := by
      rintro v u hr rv rfl
      exact Res.val I (by simp [execOp, hT, hr]) rv
    have falseR : (AV.tuple [.bool false]).rel ν h.next (.tuple #[.bool false]) := ⟨_, rfl, _, _, rfl, rfl, rfl⟩
    unfold nextO at e'
    split at e'
    · rename_i a s l ho
      obtain ⟨hb, e2⟩ := cond_none e'
      subst hb
      obtain ⟨o, hbk, r⟩ := I.obj i (by rw [ho]; simp)
      rw [ho] at r
      obtain ⟨rfl, _⟩ := r
      exact same (u := .tuple #[.bool false]) (by simp [Instr.next, hx, getObj_any hbk (by simp)]) falseR (Option.some.inj e2).symm
    · rename_i r since seen last ho
      obtain ⟨hb, e2⟩ := cond_none e'
      subst hb
      obtain ⟨o, hbk, rr⟩ := I.obj i (by rw [ho]; simp)
      rw [ho] at rr
      obtain ⟨rfl, hr⟩ := rr
      cases hm : h.obj r <;> rw [hm] at e2 <;> simp only [nextM, reduceCtorEq] at e2
      rename_i es clock
      obtain ⟨hg, e3⟩ := cond_none e2
      obtain ⟨l, hmb, re⟩ := map_obj I hm
      have hlen : es.isEmpty = l.isEmpty := by
        cases es with
        | nil =>
          have hl : l.toList = [] := re
          have : l = #[] := by apply Array.ext'; simpa using hl
          subst this; rfl
        | cons e es =>
          obtain ⟨y, s, hl, _⟩ := re
          have : l.isEmpty = false := by
            rw [Array.isEmpty_eq_false_iff]
            intro q; subst q; simp at hl
          rw [this]; rfl
      have hguard : (!seen.toArray.isEmpty && !l.isEmpty && l.all fun x => decide (x.born ≥ last)) = false := by
        have h1 : l.all (fun x => decide (x.born ≥ last)) = es.all fun e => Nat.ble last e.2.2 := by
          rw [← all_rel (n := h.next) (ν := ν) re, ← Array.all_toList]
        have h2 : seen.toArray.isEmpty = seen.isEmpty := by simp
        rw [h1, h2, ← hlen]
        exact hg
      have hleft := left_rel seen re
      have hfl : (l.filter fun e => !seen.toArray.contains e.born).toList = l.toList.filter fun e => !seen.toArray.contains e.born := by simp
      rw [← hfl] at hleft
      unfold nextL at e3
      split at e3
      · rename_i hle
        rw [hle] at hleft
        have hl0 : (l.filter fun e => !seen.toArray.contains e.born) = #[] := by apply Array.ext'; exact hleft
        refine same (u := .tuple #[.bool false]) ?_ falseR (Option.some.inj e3).symm
        simp only [Instr.next, hx, Sem.run_bind, getObj_any hbk (by simp), Result.andThen_ok, Option.map_some, getObj_map hmb, hguard, Bool.false_eq_true, if_false, hl0]
        simp [run_choose, Question.forced]
      · rename_i en hle
        obtain ⟨hb1, e4⟩ := cond_some e3
        have hb1 := Nat.le_of_ble_eq_true hb1
        rw [hle] at hleft
        obtain ⟨y, s, hl1, r1, r2, r3, r4⟩ := hleft
        have hs : s = [] := r4
        subst hs
        have hl0 : (l.filter fun e => !seen.toArray.contains e.born) = #[y] := by apply Array.ext'; exact hl1
        have hyb : y.born < since := by omega
        obtain ⟨hset, st⟩ := set_iter (P := P) I (i := i) (a' := .mIter (some r) since (seen ++ [en.2.2]) clock) (o' := .mapIter (some (ν.blk r)) since (seen.toArray.push y.born) clock) ho (by simp) hbk (by simp) ⟨by simp [r3], hr⟩
        refine e4 ▸ ⟨.tuple #[.bool true, y.key, y.val], _, ν, ?_, st, ⟨_, rfl, _, _, rfl, rfl, _, _, rfl, r1, _, _, rfl, r2, rfl⟩⟩
        have hnext : (Instr.next (ρ x) false T.type).run P w = .ok (.tuple #[.bool true, y.key, y.val]) { w with heap := w.heap.setIfInBounds (ν.blk i) (.mapIter (some (ν.blk r)) since (seen.toArray.push y.born) clock) } := by
          simp only [Instr.next, hx, Sem.run_bind, getObj_any hbk (by simp), Result.andThen_ok, Option.map_some, getObj_map hmb, hguard, Bool.false_eq_true, if_false, hl0]
          have f1 : (#[y].filter fun x => decide (x.born < since)) = #[y] := by simp [hyb]
          have f2 : (#[y].filter fun x => decide (x.born ≥ since)) = #[] := by simp; omega
          simp only [f1, f2]
          have hset' := hset
          simp only [List.push_toArray] at hset'
          simp [run_choose, Question.forced, hset']
        simp [execOp, hT, hnext]
      · simp at e3
    · rename_i s pos ho
      obtain ⟨hb, e2⟩ := cond_opt e'
      subst hb
      obtain ⟨o, hbk, rr⟩ := I.obj i (by rw [ho]; simp)
      rw [ho] at rr
      obtain ⟨bs, rfl, hs⟩ := rr
      unfold nextS at e2
      split at e2
      · rename_i hp
        have hsz : ¬ pos < bs.size := by
          rw [← hs, List.getElem?_map, Option.map_eq_none_iff, List.getElem?_eq_none_iff] at hp
          simp only [Array.length_toList] at hp
          show ¬ pos < bs.data.size
          omega
        exact same (u := .tuple #[.bool false]) (by simp [Instr.next, hx, getObj_any hbk (by simp), hsz]) falseR (Option.some.inj e2).symm
      · rename_i bb hp
        obtain ⟨hb1, e4⟩ := cond_some e2
        have hb1 := Nat.le_of_ble_eq_true hb1
        rw [← hs, List.getElem?_map, Option.map_eq_some_iff] at hp
        obtain ⟨u8, hg, hu8⟩ := hp
        have hlt : pos < bs.data.toList.length := (List.getElem?_eq_some_iff.1 hg).1
        have hsz : pos < bs.size := by simpa using hlt
        have hval : bs[pos] = u8 := by
          have := (List.getElem?_eq_some_iff.1 hg).2
          simp only [Array.getElem_toList] at this
          rw [← this]; rfl
        have hdec := decode_ascii bs pos hsz (by rw [hval]; omega)
        obtain ⟨hset, st⟩ := set_iter (P := P) I (i := i) (a' := .sIter s (Nat.succ pos)) (o' := .stringIter bs (pos + 1)) ho (by simp) hbk (by simp) ⟨bs, rfl, hs⟩
        refine e4 ▸ ⟨.tuple #[.bool true, goInt pos, .int .i32 (bb : Nat)], _, ν, ?_, st, ⟨_, rfl, _, _, rfl, rfl, _, _, rfl, rfl, _, _, rfl, rfl, rfl⟩⟩
        have hnext : (Instr.next (ρ x) true T.type).run P w = .ok (.tuple #[.bool true, goInt pos, .int .i32 (bb : Nat)]) { w with heap := w.heap.setIfInBounds (ν.blk i) (.stringIter bs (pos + 1)) } := by
          simp only [Instr.next, hx, Sem.run_bind, getObj_any hbk (by simp), Result.andThen_ok, hsz, if_true, hdec, hset, Sem.run_pure, hval, hu8]
        simp [execOp, hT, hnext]
    · simp at e'
  · simp at e'

theorem entryF_rel {n b : Nat} : ∀ {es : List (AV × AV × Nat)} {l : List MapEntry} {v : AV}, entRel ν n es l → entryF b es = some v → ∃ y, l.find? (·.born == b) = some y ∧ v.rel ν n (.tuple #[y.key, y.val])
  | [], _, _, _, h => by simp [entryF] at h
  | e :: es, _, v, ⟨x, s, hl, r1, r2, r3, r4⟩, h => by
    subst hl
    simp only [entryF] at h
    rw [List.find?_cons]
    cases hb : Nat.beq e.2.2 b with
    | true =>
      rw [hb] at h
      simp only [cond_true, Option.some.injEq] at h
      subst h
      have : (x.born == b) = true := by rw [r3]; simpa using Nat.eq_of_beq_eq_true hb
      rw [this]
      exact ⟨x, rfl, _, rfl, _, _, rfl, r1, _, _, rfl, r2, rfl⟩
    | false =>
      rw [hb] at h
      simp only [cond_false] at h
      have : (x.born == b) = false := by rw [r3]; simpa using Nat.ne_of_beq_eq_false hb
      rw [this]
      exact entryF_rel r4 h

theorem ok_entry (x : Operand) : Sound P (.entry x) (F_entry (c x)) c := by
  intro ν h w ρA ρ T hT I R out e
  have rx := R x
  obtain ⟨v, hv, rfl⟩ := valE_some e
  generalize ρA (c x) = ax at hv rx
  unfold entryE at hv
  split at hv
  · rename_i i
    obtain ⟨hhas, hx⟩ := rx
    unfold entryO at hv
    split at hv
    · rename_i r since seen stepped ho
      obtain ⟨o, hbk, rr⟩ := I.obj i (by rw [ho]; simp)
      rw [ho] at rr
      obtain ⟨rfl, hr⟩ := rr
      cases hm : h.obj r <;> rw [hm] at hv <;> simp only [entryM, reduceCtorEq] at hv
      rename_i es clock
      obtain ⟨hc, hv2⟩ := cond_opt hv
      have hc := Nat.eq_of_beq_eq_true hc
      obtain ⟨l, hmb, re⟩ := map_obj I hm
      cases hlast : seen.getLast? with
      | none => rw [hlast] at hv2; simp [entryL] at hv2
      | some b =>
        rw [hlast] at hv2
        obtain ⟨y, hy, rv⟩ := entryF_rel re hv2
        have hback : seen.toArray.back? = some b := by simpa [Array.back?, List.getLast?_eq_getElem?] using hlast
        have hfind : l.find? (·.born == b) = some y := by rw [← Array.find?_toList]; exact hy
        refine Res.val I (u := .tuple #[y.key, y.val]) ?_ rv
        have : (Instr.entry (ρ x)).run P w = .ok (.tuple #[y.key, y.val]) w := by
          simp [Instr.entry, hx, getObj_any hbk (by simp), hback, getObj_map hmb, hc, hfind]
        simp [execOp, hT, this]
    · simp at hv
  · simp at hv

/-- What a mark leaves: the value, the heap that is spoken of, and the world but for one frozen range. -/
theorem mark_run (s d : TypeId) (x : Operand) (hk : cvK P s d = .sl) (I : Inv P ν h w) (R : ∀ x, (ρA (c x)).rel ν h.next (ρ x)) (T : Oper) (hT : T.op = .convert s d x) {out : Out} (e : F_mark (c x) ρA h = some out) :
    ∃ (v : AV) (u : Value) (i : Nat) (cs : Array Value) (el : TypeId) (fz fz' : Nat × Nat), out = .val v h ∧ v.rel ν h.next u ∧ isMarked (h.obj i) = true ∧ w.heap[ν.blk i]? = some (.cells cs el fz) ∧ thaw cs.size fz' ∧
      (execOp ρ T).run P w = .ok (.value u) { w with heap := w.heap.setIfInBounds (ν.blk i) (.cells cs el fz') } := by
  have rx := R x
  have e' : markE h (ρA (c x)) = some out := e
  have sp := cvK_spec (P := P) (s := s) (d := d) rfl
  rw [hk] at sp
  obtain ⟨el, el', h1, h2, h3, rfl⟩ := sp
  have hel : el' = el := by rw [h1] at h2; simpa using h2
  subst hel
  generalize hax : ρA (c x) = ax at e' rx
  unfold markE at e'
  split at e'
  · rename_i a n k ex
    obtain ⟨hm, e2⟩ := cond_some e'
    obtain ⟨cs, e3, fz, fz', g1, g2, g3⟩ := mark_same (P := P) I hm a.2
    have rx0 := rx
    obtain ⟨hlt, k', hx, y⟩ := rx
    refine ⟨.slice (some a) n k ex, ρ x, a.1, cs, e3, fz, fz', e2.symm, rx0, hm, g1, g2, ?_⟩
    have : (convert s s (ρ x)).run P w = .ok (ρ x) { w with heap := w.heap.setIfInBounds (ν.blk a.1) (.cells cs e3 fz') } := by
      rw [hx]; simp [convert, run_underlying h1, run_underlying h3, g3]
    simp [execOp, hT, this]
  · simp at e'

theorem marked_rel {n i : Nat} {a : AObj} {cs : Array Value} {e : TypeId} {fz fz' : Nat × Nat} (ha : isMarked a = true) (ht : thaw cs.size fz') (r : ObjRel P ν n i a (.cells cs e fz)) : ObjRel P ν n i a (.cells cs e fz') := by
  cases a with
  | flat ex e' st l =>
    cases st with
    | false => simp [isMarked] at ha
    | true =>
      obtain ⟨c, z, he, h1, h2, h3, h4, h5, _, _⟩ := r
      injection he with e1 e2 _
      subst e1; subst e2
      exact ⟨cs, fz', rfl, h1, h2, h3, h4, h5, ht, fun q => by cases q⟩
  | _ => simp [isMarked] at ha

theorem mark_stepS (I : Inv P ν h w) {i : Nat} {cs : Array Value} {e : TypeId} {fz fz' : Nat × Nat} (ha : isMarked (h.obj i) = true) (hb : w.heap[ν.blk i]? = some (.cells cs e fz)) (ht : thaw cs.size fz') :
    Step P ν h w ν h { w with heap := w.heap.setIfInBounds (ν.blk i) (.cells cs e fz') } := by
  have hd : h.obj i ≠ .dead := by intro q; rw [q] at ha; simp [isMarked] at ha
  have hlt := (Array.getElem?_eq_some_iff.1 hb).1
  obtain ⟨o, ho, r⟩ := I.obj i hd
  rw [hb] at ho
  cases ho
  refine (Step.set (w' := { w with heap := w.heap.setIfInBounds (ν.blk i) (.cells cs e fz') }) I hd (a := h.obj i) (o := .cells cs e fz') (by simp [hlt]) (marked_rel ha ht r) (by simp) (fun q hq => by simp only [Array.getElem?_setIfInBounds]; rw [if_neg (fun q' => hq q'.symm)]) rfl rfl rfl).congr (fun j => ?_) rfl
  rw [Heap.obj_set]
  split
  · rename_i q; rw [q]
  · rfl

theorem cmpOp_sound {o : Op} {f : OpF} (hf : cmpOp P c o = some f) : Sound P o f c := by
  unfold cmpOp at hf
  split at hf
  · simp only [Option.some.injEq] at hf; subst hf; exact ok_mv _
  · simp only [Option.some.injEq] at hf; subst hf; exact ok_assign _
  · simp only [Option.some.injEq] at hf; subst hf; exact ok_pick _ _ _
  · split at hf
    · simp only [Option.some.injEq] at hf; subst hf; exact ok_alloc _ (by assumption)
    · simp at hf
  · simp only [Option.some.injEq] at hf; subst hf; exact ok_box _ _
  · exact ok_build _ _ hf
  · exact ok_buildSlice _ _ _ hf
  · split at hf
    · rename_i d hs hd
      simp only [Option.some.injEq] at hf; subst hf; exact (ok_load _ _ hs (by rw [hd]; rfl)).sound
    · simp at hf
  · split at hf
    · simp only [Option.some.injEq] at hf; subst hf; exact ok_store _ _ _ (by assumption)
    · simp at hf
  · simp only [Option.some.injEq] at hf; subst hf; exact ok_nilc _
  · simp only [Option.some.injEq] at hf; subst hf; exact (ok_bin _ _ _ _ _).sound
  · simp only [Option.some.injEq] at hf; subst hf; exact ok_un _ _ _
  · simp only [Option.some.injEq] at hf; subst hf; exact ok_conv _ _ _
  · simp only [Option.some.injEq] at hf; subst hf; exact ok_mkf _ _ _
  · simp only [Option.some.injEq] at hf; subst hf; exact ok_mkmap _
  · exact ok_mksl _ _ _ hf
  · simp only [Option.some.injEq] at hf; subst hf; exact ok_sl _ _ _ _ _
  · split at hf
    · rename_i p hp
      obtain ⟨h0, hf⟩ := cond_none hf
      simp only [Option.some.injEq] at hf; subst hf; exact ok_fa _ _ _ hp h0
    · simp at hf
  · split at hf
    · rename_i p hp
      split at hf
      · rename_i d hd
        simp only [Option.some.injEq] at hf; subst hf; exact ok_fld _ _ _ hp (by rw [hd]; rfl)
      · simp at hf
    · simp at hf
  · exact ok_ia _ _ _ hf
  · exact ok_ix _ _ _ hf
  · split at hf
    · rename_i kt e hu
      split at hf
      · simp only [Option.some.injEq] at hf; subst hf; exact (ok_lk _ _ _ _ _ _ hu (by assumption)).sound
      · simp at hf
    · simp at hf
  · split at hf
    · rename_i kt e hu
      simp only [Option.some.injEq] at hf; subst hf; exact ok_mup _ _ _ _ _ _ hu
    · simp at hf
  · simp only [Option.some.injEq] at hf; subst hf; exact ok_ext _ _
  · simp only [Option.some.injEq] at hf; subst hf; exact ok_range _ _
  · simp only [Option.some.injEq] at hf; subst hf; exact ok_next _ _
  · simp only [Option.some.injEq] at hf; subst hf; exact ok_entry _
  · rename_i k
    obtain ⟨callee, args, ts⟩ := k
    simp only at hf
    split at hf
    · exact cmpBlt_sound hf
    · simp only [Option.some.injEq] at hf; subst hf; exact ok_call _ _ _
    · simp at hf
  · simp at hf

theorem cmpOpD_cases {o : Op} {f : OpF} (hf : cmpOpD P c o = some f) : cmpOp P c o = some f ∨ ∃ s d x, o = .convert s d x ∧ cvK P s d = .sl ∧ f = F_mark (c x) := by
  cases o with
  | convert s d x =>
    simp only [cmpOpD] at hf
    cases hk : cvK P s d with
    | sl =>
      rw [hk] at hf
      simp only [Option.some.injEq] at hf
      exact .inr ⟨s, d, x, rfl, hk, hf.symm⟩
    | _ => rw [hk] at hf; exact .inl hf
  | _ => exact .inl hf

theorem cmpOpD_sound {o : Op} {f : OpF} (hf : cmpOpD P c o = some f) : Sound P o f c := by
  rcases cmpOpD_cases hf with hf | ⟨s, d, x, rfl, hk, rfl⟩
  · exact cmpOp_sound hf
  · intro ν h w ρA ρ T hT I R out e
    obtain ⟨v, u, i, cs, el, fz, fz', rfl, rv, hm, hb, ht, hrun⟩ := mark_run s d x hk I R T hT e
    exact ⟨u, _, ν, hrun, mark_stepS I hm hb ht, rv⟩

end Go.Ev
