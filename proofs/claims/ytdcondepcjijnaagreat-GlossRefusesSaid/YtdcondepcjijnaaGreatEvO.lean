/-
  THE EVALUATOR IS RIGHT, thirteenth text: code, calls, the whole.
-/
import Derived.Test.YtdcondepcjijnaaGreatEvU
import Derived.LoopN
namespace Go.Ev
open Go

variable {P : Program} {ν : V} {h : Heap} {w : World}

/-- What the run of code comes to, as an exit. -/
def toX : RC → Option (Exit × Tm × Heap)
  | .no _ => none
  | .normal tm h => some (.normal, tm, h)
  | .exit id tm h => some (.exit id, tm, h)
  | .ret tm h => some (.ret, tm, h)

def PostE (P : Program) (ks : List Nat) (nt : Nat) (ν : V) (h : Heap) (w : World) (X : Exit) (tm' : Tm) (h' : Heap) : Exit → Act → World → Prop :=
  fun e a' w' => e = X ∧ ∃ ν', Step P ν h w ν' h' w' ∧ RelT ks ν' h'.next tm' a'.tmps ∧ a'.tmps.size = nt ∧ a'.defers = []

/-- A loop by its rounds: so many at most. -/
def wpN (P : Program) (n : Nat) (c : Code) (Q : Exit → Act → World → Prop) (a : Act) (w : World) : Prop :=
  match c with
  | .loop b => Code.rounds P b Q n a w
  | c => c.wp P Q a w

theorem wpN_wp {n : Nat} {c : Code} {Q : Exit → Act → World → Prop} {a : Act} (h : wpN P n c Q a w) : c.wp P Q a w := by
  cases c with
  | loop b => exact wp_loop_rounds n h
  | _ => exact h

def RecSound (P : Program) (n : Nat) (rec : RecM) : Prop :=
  ∀ (nt : Nat) (ks : List Nat) (c : Code) (tm : Tm) (h : Heap) (X : Exit) (tm' : Tm) (h' : Heap), toX (rec (cmpC P nt ks c) tm h) = some (X, tm', h') →
    ∀ (ν : V) (w : World) (a : Act), Inv P ν h w → RelT ks ν h.next tm a.tmps → a.tmps.size = nt → a.defers = [] → wpN P n c (PostE P ks nt ν h w X tm' h') a w

def HookSound (P : Program) (hook : Hook) : Prop := ∀ f g, hook f = some g → ∀ args h v h', g args h = .ok v h' → ∀ ν w vs, Inv P ν h w → relL ν h.next args vs → CallOK P ν h w v h' ((callFunc f vs.toArray).run P w)

/-! The end of a call -/

theorem cellM_run (I : Inv P ν h w) {ty : TypeId} {x : AV} {vx : Value} (rx : x.rel ν h.next vx) {v : AV} (hv : cellM P ty h x = some v) : ∃ a u, vx = .pointer (some a) ∧ (loadVar ty a).run P w = .ok u w ∧ v.rel ν h.next u := by
  unfold cellM at hv
  split at hv
  · rename_i n d hs hd
    have hag := isAgg_run hs w (by rw [hd]; rfl)
    cases hb : isAggB P ty with
    | true =>
      rw [hb] at hv
      simp only [cond_true] at hv
      unfold loadNA at hv
      split at hv
      · obtain ⟨_, rfl⟩ := rx
        obtain ⟨l, hl, rfl⟩ := aggE_some hv
        obtain ⟨s, r, hn, hrun⟩ := loadN_run (P := P) I hl
        exact ⟨_, .agg s.toArray, rfl, by simp [loadVar, hag, hb, szOf_run hs, hrun], s.toArray, rfl, r⟩
      · simp at hv
    | false =>
      rw [hb] at hv
      simp only [cond_false] at hv
      unfold load1A at hv
      split at hv
      · obtain ⟨_, rfl⟩ := rx
        obtain ⟨u, r, hcell⟩ := load1_run (P := P) I hv
        exact ⟨_, u, rfl, by simp [loadVar, hag, hb, hcell], r⟩
      · simp at hv
  · simp at hv

def resV (tmps : Array Value) : ResultVar → Sem Value
  | .tmp t => pure (tmps.getD t undef)
  | .cell a t => do loadVar t (← asAddr (tmps.getD a undef))
theorem results_eq (fn : Func) (tmps : Array Value) : results fn tmps = (do
    let vs ← fn.results.mapM (resV tmps)
    pure (if h : vs.size = 1 then vs[0] else .tuple vs)) := rfl

theorem resM_run (I : Inv P ν h w) {ks : List Nat} {tm : Tm} {a : Act} (hT : RelT ks ν h.next tm a.tmps) : ∀ (l : List ResultVar) (vs : List AV), resM P ks tm h l = some vs →
    ∃ us : List Value, (l.mapM (resV a.tmps)).run P w = .ok us w ∧ relL ν h.next vs us
  | [], vs, hr => by
    simp only [resM, Option.some.injEq] at hr
    subst hr
    exact ⟨[], by simp, rfl⟩
  | .tmp t :: l, vs, hr => by
    simp only [resM] at hr
    cases hl : resM P ks tm h l with
    | none => simp [hl] at hr
    | some vs' =>
      simp only [hl, Option.some.injEq] at hr
      subst hr
      obtain ⟨us, hu, r⟩ := resM_run I hT l vs' hl
      have rt := cmpO_rel (ds := []) (loc := []) (a := a) hT (fun t i e => by simp [idxOf] at e) (.tmp t)
      have h1 : (resV a.tmps (.tmp t)).run P w = .ok (a.tmps.getD t undef) w := rfl
      exact ⟨a.tmps.getD t undef :: us, by simp only [List.mapM_cons, Sem.run_bind, h1, Sem.run_pure, Result.andThen_ok, hu], _, us, rfl, rt, r⟩
  | .cell q t :: l, vs, hr => by
    simp only [resM] at hr
    split at hr
    · rename_i v vs' hv hl
      simp only [Option.some.injEq] at hr
      subst hr
      obtain ⟨us, hu, r⟩ := resM_run I hT l vs' hl
      have rt := cmpO_rel (ds := []) (loc := []) (a := a) hT (fun t i e => by simp [idxOf] at e) (.tmp q)
      obtain ⟨ad, u, hp, hrun, rv⟩ := cellM_run I rt hv
      have hp' : a.tmps.getD q undef = .pointer (some ad) := hp
      have h1 : (resV a.tmps (.cell q t)).run P w = .ok u w := by
        simp only [resV, hp', asAddr, Sem.run_bind, Sem.run_pure, Result.andThen_ok, hrun]
      exact ⟨u :: us, by simp only [List.mapM_cons, Sem.run_bind, h1, Sem.run_pure, Result.andThen_ok, hu], u, us, rfl, rv, r⟩
    · simp at hr

theorem results_run (I : Inv P ν h w) {ks : List Nat} {tm : Tm} {a : Act} (hT : RelT ks ν h.next tm a.tmps) {fn : Func} {v : AV} {h' : Heap} (hr : oneOf h (resM P ks tm h fn.results.toList) = .ok v h') :
    h' = h ∧ ∃ u, (results fn a.tmps).run P w = .ok u w ∧ v.rel ν h.next u := by
  cases hl : resM P ks tm h fn.results.toList with
  | none => simp [hl, oneOf] at hr
  | some vs =>
    obtain ⟨us, hu, r⟩ := resM_run I hT _ vs hl
    have hm : (results fn a.tmps).run P w = .ok (if hs : us.toArray.size = 1 then us.toArray[0] else .tuple us.toArray) w := by
      rw [results_eq, Array.mapM_eq_mapM_toList, Sem.run_bind, Sem.run_map, hu]
      rfl
    rw [hl] at hr
    have tup : ∀ (hne : us.length ≠ 1), (results fn a.tmps).run P w = .ok (.tuple us.toArray) w := fun hne => by
      rw [hm, dif_neg (by simpa using hne)]
    have hlen := relL_len r
    match vs, r, hr, hlen with
    | [], r, hr, hlen =>
      injection hr with e1 e2
      subst e1; subst e2
      exact ⟨rfl, _, tup (by simp at hlen; omega), us.toArray, rfl, r⟩
    | [x], r, hr, hlen =>
      injection hr with e1 e2
      subst e1; subst e2
      obtain ⟨u, s, rfl, rx, rs⟩ := r
      cases rs
      exact ⟨rfl, u, by rw [hm]; rfl, rx⟩
    | x :: y :: l, r, hr, hlen =>
      injection hr with e1 e2
      subst e1; subst e2
      exact ⟨rfl, _, tup (by simp at hlen; omega), us.toArray, rfl, r⟩

/-! The begin of a call -/

theorem initT_get (args : List AV) : ∀ (ks : List Nat) (k : Nat) (tm : Tm) (p : Path), (∀ j, pathN (k + j) ≠ p) → getT (initT args ks k tm) p = getT tm p
  | [], _, _, _, _ => rfl
  | t :: r, k, tm, p, hp => by
    show getT (initT args r (k + 1) (argAt args tm k args[t]?)) p = _
    rw [initT_get args r (k + 1) _ p fun j => by have := hp (j + 1); rwa [show k + (j + 1) = k + 1 + j by omega] at this]
    cases args[t]? with
    | none => rfl
    | some v =>
      show getT (tm.put (pathN k) v) p = _
      rw [getT_put, if_neg (by simpa using hp 0)]

theorem initT_pos (args : List AV) : ∀ (ks : List Nat) (k : Nat) (tm : Tm) (t i : Nat), posOf t ks = some i → getT tm (pathN (k + i)) = .tuple [] → getT (initT args ks k tm) (pathN (k + i)) = (match args[t]? with | some v => v | none => .tuple [])
  | [], _, _, _, _, h, _ => by simp [posOf] at h
  | d :: r, k, tm, t, i, h, h0 => by
    simp only [posOf] at h
    have hne : ∀ j, pathN (k + 1 + j) ≠ pathN k := fun j q => by have := pathN_inj q; omega
    show getT (initT args r (k + 1) (argAt args tm k args[d]?)) (pathN (k + i)) = _
    cases hb : Nat.beq d t with
    | true =>
      rw [hb] at h
      simp at h
      subst h
      have := Nat.eq_of_beq_eq_true hb
      subst this
      rw [Nat.add_zero] at h0
      show getT (initT args r (k + 1) (argAt args tm k args[d]?)) (pathN k) = _
      rw [initT_get args r (k + 1) _ _ hne]
      cases args[d]? with
      | none => exact h0
      | some v => show getT (tm.put (pathN k) v) (pathN k) = v; rw [getT_put]; simp
    | false =>
      rw [hb] at h
      simp only [cond_false] at h
      cases hr : posOf t r with
      | none => simp [hr, sucO] at h
      | some j =>
        simp only [hr, sucO, Option.some.injEq] at h
        subst h
        have e : k + Nat.succ j = k + 1 + j := by omega
        rw [e] at h0 ⊢
        refine initT_pos args r (k + 1) _ t j hr ?_
        cases args[d]? with
        | none => exact h0
        | some v => show getT (tm.put (pathN k) v) _ = _; rw [getT_put, if_neg fun q => hne j q.symm]; exact h0

theorem init_rel {n : Nat} {args : List AV} {vs : List Value} (r : relL ν n args vs) (ks : List Nat) (nt : Nat) : RelT ks ν n (initT args ks 0 .e) (vs.toArray ++ Array.replicate (nt - vs.toArray.size) undef) := by
  intro t i hi
  have := initT_pos args ks 0 .e t i hi rfl
  rw [Nat.zero_add] at this
  rw [this]
  have hl := relL_len r
  cases ha : args[t]? with
  | some v =>
    obtain ⟨u, hu, x⟩ := relL_get r ha
    have hlt : t < vs.length := (List.getElem?_eq_some_iff.1 hu).1
    have : (vs.toArray ++ Array.replicate (nt - vs.toArray.size) undef).getD t undef = u := by
      rw [Array.getD_eq_getD_getElem?, Array.getElem?_append_left (by simpa using hlt)]
      simp [hu]
    rw [this]; exact x
  | none =>
    have hge : vs.length ≤ t := by rw [← hl]; exact List.getElem?_eq_none_iff.1 ha
    have : (vs.toArray ++ Array.replicate (nt - vs.toArray.size) undef).getD t undef = undef := by
      rw [Array.getD_eq_getD_getElem?, Array.getElem?_append_right (by simpa using hge), Array.getElem?_replicate]
      split <;> rfl
    rw [this]
    exact ⟨#[], rfl, rfl⟩

theorem bodyM_sound {rec : RecM} {n : Nat} (hr : RecSound P n rec) {f : FuncId} {args : List AV} {h : Heap} {v : AV} {h' : Heap} (hcall' : tagM f (bodyM P rec args h (funM P f)) = .ok v h') {ν : V} {w : World} {vs : List Value} (I : Inv P ν h w) (r : relL ν h.next args vs) : CallOK P ν h w v h' ((callFunc f vs.toArray).run P w) := by
  unfold funM at hcall'
  cases hf : P.funcs[f]? with
  | none => simp [hf, bodyM, tagM] at hcall'
  | some fn =>
    simp only [hf] at hcall'
    cases hb : fn.body with
    | none => simp [hb, bodyOf, bodyM, tagM] at hcall'
    | some c =>
      simp only [hb, bodyOf] at hcall'
      cases hname : (fn.name == "runtime.NumGoroutine") with
      | true => simp [hname, bodyM, tagM] at hcall'
      | false =>
        simp only [hname, cond_false, bodyM, cmpF] at hcall'
        cases hlen : Nat.ble args.length fn.ntmps with
        | false => simp [hlen, tagM] at hcall'
        | true =>
          simp only [hlen, cond_true] at hcall'
          have hlen := Nat.le_of_ble_eq_true hlen
          have hl := relL_len r
          have hcf : (callFunc f vs.toArray).run P w = .ok (.enter f vs.toArray) w := by
            have hname' : ¬ fn.name = "runtime.NumGoroutine" := by simpa using hname
            simp [callFunc, hf, hname', hb]
          rw [hcf]
          show Calls P f vs.toArray w _
          generalize hks : usesF fn c = ks at hcall'
          cases hrun : rec (cmpC P fn.ntmps ks c) (initT args ks 0 .e) h with
          | no l => rw [hrun] at hcall'; simp [backM, tagM] at hcall'
          | exit id tm h1 => rw [hrun] at hcall'; simp [backM, tagM] at hcall'
          | normal tm h1 =>
            rw [hrun] at hcall'
            simp only [backM] at hcall'
            have hone : oneOf h1 (resM P ks tm h1 fn.results.toList) = .ok v h' := by
              cases hq : oneOf h1 (resM P ks tm h1 fn.results.toList) with
              | no l => rw [hq] at hcall'; simp [tagM] at hcall'
              | ok a b => rw [hq] at hcall'; simpa [tagM] using hcall'
            have hwp := wpN_wp (hr fn.ntmps ks c (initT args ks 0 .e) h .normal tm h1 (by rw [hrun]; rfl) ν w { tmps := vs.toArray ++ Array.replicate (fn.ntmps - vs.toArray.size) undef, defers := [] } I (init_rel r ks fn.ntmps) (by simp; omega) rfl)
            refine calls_of_wp hf hb (wp_mono hwp ?_)
            rintro e a' w' ⟨rfl, ν', st, hT, hs, hd⟩
            obtain ⟨rfl, u, hru, rv⟩ := results_run st.inv hT hone
            exact ⟨hd, u, hru, u, ν', rfl, st, rv⟩
          | ret tm h1 =>
            rw [hrun] at hcall'
            simp only [backM] at hcall'
            have hone : oneOf h1 (resM P ks tm h1 fn.results.toList) = .ok v h' := by
              cases hq : oneOf h1 (resM P ks tm h1 fn.results.toList) with
              | no l => rw [hq] at hcall'; simp [tagM] at hcall'
              | ok a b => rw [hq] at hcall'; simpa [tagM] using hcall'
            have hwp := wpN_wp (hr fn.ntmps ks c (initT args ks 0 .e) h .ret tm h1 (by rw [hrun]; rfl) ν w { tmps := vs.toArray ++ Array.replicate (fn.ntmps - vs.toArray.size) undef, defers := [] } I (init_rel r ks fn.ntmps) (by simp; omega) rfl)
            refine calls_of_wp hf hb (wp_mono hwp ?_)
            rintro e a' w' ⟨rfl, ν', st, hT, hs, hd⟩
            obtain ⟨rfl, u, hru, rv⟩ := results_run st.inv hT hone
            exact ⟨hd, u, hru, u, ν', rfl, st, rv⟩

/-! Code -/

theorem callM_sound {hook : Hook} {rec : RecM} {n : Nat} (hh : HookSound P hook) (hr : RecSound P n rec) : CallSound P (callM P hook rec) := by
  intro f args h v h' hcall ν w vs I r
  have hcall' : tagM f (callH P rec f args h (hook f)) = .ok v h' := hcall
  cases hk : hook f with
  | some g =>
    rw [hk] at hcall'
    simp only [callH] at hcall'
    cases hg : g args h with
    | no l => rw [hg] at hcall'; exact bodyM_sound hr hcall' I r
    | ok v1 h1 =>
      rw [hg] at hcall'
      injection hcall' with e1 e2
      subst e1; subst e2
      exact hh f g hk args h _ _ hg ν w vs I r
  | none =>
    rw [hk] at hcall'
    exact bodyM_sound hr hcall' I r

theorem codeM_sound {hook : Hook} {rec : RecM} {n : Nat} (hh : HookSound P hook) (hr : RecSound P n rec) : RecSound P (n + 1) fun c tm h => codeM P c hook rec tm h := by
  intro nt ks c tm h X tm' h' hx ν w a I hT hs hd
  have lift : ∀ {ν1 : V} {h1 : Heap} {w1 : World} {X : Exit} {tm' : Tm} {h' : Heap}, Step P ν h w ν1 h1 w1 → ∀ e a' w', PostE P ks nt ν1 h1 w1 X tm' h' e a' w' → PostE P ks nt ν h w X tm' h' e a' w' :=
    fun st e a' w' ⟨p, ν', q, r⟩ => ⟨p, ν', st.trans q, r⟩
  cases c with
  | skip =>
    have hx' : some (Exit.normal, tm, h) = some (X, tm', h') := hx
    injection hx' with hx'
    cases hx'
    exact wp_skip ⟨rfl, ν, Step.refl I, hT, hs, hd⟩
  | ret =>
    have hx' : some (Exit.ret, tm, h) = some (X, tm', h') := hx
    injection hx' with hx'
    cases hx'
    exact wp_ret ⟨rfl, ν, Step.refl I, hT, hs, hd⟩
  | exit id =>
    have hx' : some (Exit.exit id, tm, h) = some (X, tm', h') := hx
    injection hx' with hx'
    cases hx'
    exact wp_exit ⟨rfl, ν, Step.refl I, hT, hs, hd⟩
  | seq x y =>
    have hx' : toX (thenM rec (cmpC P nt ks y) (rec (cmpC P nt ks x) tm h)) = some (X, tm', h') := hx
    refine wp_seq ?_
    cases hq : rec (cmpC P nt ks x) tm h with
    | no l => rw [hq] at hx'; simp [thenM, toX] at hx'
    | normal tm1 h1 =>
      rw [hq] at hx'
      have h1w := wpN_wp (hr nt ks x tm h .normal tm1 h1 (by rw [hq]; rfl) ν w a I hT hs hd)
      refine wp_mono h1w ?_
      rintro e a1 w1 ⟨rfl, ν1, st, hT1, hs1, hd1⟩
      have h2w := wpN_wp (hr nt ks y tm1 h1 X tm' h' hx' ν1 w1 a1 st.inv hT1 hs1 hd1)
      exact wp_mono h2w (lift st)
    | exit id tm1 h1 =>
      rw [hq] at hx'
      have hx'' : some (Exit.exit id, tm1, h1) = some (X, tm', h') := hx'
      injection hx'' with hx''
      cases hx''
      refine wp_mono (wpN_wp (hr nt ks x tm h (.exit id) tm' h' (by rw [hq]; rfl) ν w a I hT hs hd)) ?_
      rintro e a1 w1 ⟨rfl, r⟩
      exact ⟨rfl, r⟩
    | ret tm1 h1 =>
      rw [hq] at hx'
      have hx'' : some (Exit.ret, tm1, h1) = some (X, tm', h') := hx'
      injection hx'' with hx''
      cases hx''
      refine wp_mono (wpN_wp (hr nt ks x tm h .ret tm' h' (by rw [hq]; rfl) ν w a I hT hs hd)) ?_
      rintro e a1 w1 ⟨rfl, r⟩
      exact ⟨rfl, r⟩
  | cond x y z =>
    have hx' : toX (condM rec (cmpC P nt ks y) (cmpC P nt ks z) tm h (evO [] tm (cmpO ks [] x))) = some (X, tm', h') := hx
    have rx := cmpO_rel (ds := []) (loc := []) (a := a) hT (fun t i e => by simp [idxOf] at e) x
    generalize evO [] tm (cmpO ks [] x) = v at hx' rx
    unfold condM at hx'
    split at hx'
    · exact wp_cond (t := true) rx (wpN_wp (hr nt ks y tm h X tm' h' hx' ν w a I hT hs hd))
    · exact wp_cond (t := false) rx (wpN_wp (hr nt ks z tm h X tm' h' hx' ν w a I hT hs hd))
    · simp [toX] at hx'
  | block id x =>
    have hx' : toX (blockM id (rec (cmpC P nt ks x) tm h)) = some (X, tm', h') := hx
    refine wp_block ?_
    cases hq : rec (cmpC P nt ks x) tm h with
    | no l => rw [hq] at hx'; simp [blockM, toX] at hx'
    | normal tm1 h1 =>
      rw [hq] at hx'
      have hx'' : some (Exit.normal, tm1, h1) = some (X, tm', h') := hx'
      injection hx'' with hx''
      cases hx''
      refine wp_mono (wpN_wp (hr nt ks x tm h .normal tm' h' (by rw [hq]; rfl) ν w a I hT hs hd)) ?_
      rintro e a1 w1 ⟨rfl, r⟩
      exact ⟨rfl, r⟩
    | exit id' tm1 h1 =>
      rw [hq] at hx'
      have hw := wpN_wp (hr nt ks x tm h (.exit id') tm1 h1 (by rw [hq]; rfl) ν w a I hT hs hd)
      simp only [blockM] at hx'
      cases hb : Nat.beq id' id with
      | true =>
        rw [hb] at hx'
        have hx'' : some (Exit.normal, tm1, h1) = some (X, tm', h') := hx'
        injection hx'' with hx''
        cases hx''
        have := Nat.eq_of_beq_eq_true hb
        subst this
        refine wp_mono hw ?_
        rintro e a1 w1 ⟨rfl, r⟩
        simp only [Exit.inBlock, if_true]
        exact ⟨rfl, r⟩
      | false =>
        rw [hb] at hx'
        have hx'' : some (Exit.exit id', tm1, h1) = some (X, tm', h') := hx'
        injection hx'' with hx''
        cases hx''
        have hne := Nat.ne_of_beq_eq_false hb
        refine wp_mono hw ?_
        rintro e a1 w1 ⟨rfl, r⟩
        simp only [Exit.inBlock, if_neg hne]
        exact ⟨rfl, r⟩
    | ret tm1 h1 =>
      rw [hq] at hx'
      have hx'' : some (Exit.ret, tm1, h1) = some (X, tm', h') := hx'
      injection hx'' with hx''
      cases hx''
      refine wp_mono (wpN_wp (hr nt ks x tm h .ret tm' h' (by rw [hq]; rfl) ν w a I hT hs hd)) ?_
      rintro e a1 w1 ⟨rfl, r⟩
      exact ⟨rfl, r⟩
  | loop x =>
    have hx' : toX (thenM rec (cmpC P nt ks (.loop x)) (rec (cmpC P nt ks x) tm h)) = some (X, tm', h') := hx
    show x.wp P (Exit.then (Code.rounds P x _ n) _) a w
    cases hq : rec (cmpC P nt ks x) tm h with
    | no l => rw [hq] at hx'; simp [thenM, toX] at hx'
    | normal tm1 h1 =>
      rw [hq] at hx'
      have h1w := wpN_wp (hr nt ks x tm h .normal tm1 h1 (by rw [hq]; rfl) ν w a I hT hs hd)
      refine wp_mono h1w ?_
      rintro e a1 w1 ⟨rfl, ν1, st, hT1, hs1, hd1⟩
      have h2w : Code.rounds P x (PostE P ks nt ν1 h1 w1 X tm' h') n a1 w1 := hr nt ks (.loop x) tm1 h1 X tm' h' hx' ν1 w1 a1 st.inv hT1 hs1 hd1
      have mono : ∀ (n : Nat) {Q Q' : Exit → Act → World → Prop} {a : Act} {w : World}, (∀ e a w, Q e a w → Q' e a w) → Code.rounds P x Q n a w → Code.rounds P x Q' n a w := by
        intro n
        induction n with
        | zero => intro Q Q' a w _ h; exact h
        | succ n ih =>
          intro Q Q' a w hq h
          refine wp_mono h ?_
          intro e a w he
          cases e with
          | normal => exact ih hq he
          | _ => exact hq _ _ _ he
      exact mono n (lift st) h2w
    | exit id tm1 h1 =>
      rw [hq] at hx'
      have hx'' : some (Exit.exit id, tm1, h1) = some (X, tm', h') := hx'
      injection hx'' with hx''
      cases hx''
      refine wp_mono (wpN_wp (hr nt ks x tm h (.exit id) tm' h' (by rw [hq]; rfl) ν w a I hT hs hd)) ?_
      rintro e a1 w1 ⟨rfl, r⟩
      exact ⟨rfl, r⟩
    | ret tm1 h1 =>
      rw [hq] at hx'
      have hx'' : some (Exit.ret, tm1, h1) = some (X, tm', h') := hx'
      injection hx'' with hx''
      cases hx''
      refine wp_mono (wpN_wp (hr nt ks x tm h .ret tm' h' (by rw [hq]; rfl) ν w a I hT hs hd)) ?_
      rintro e a1 w1 ⟨rfl, r⟩
      exact ⟨rfl, r⟩
  | region id ops draw =>
    cases draw with
    | true =>
      have hx0 : toX (codeM P (dregOf (drawnC P nt ks ops.toList (infoD ops.toList []))) hook rec tm h) = some (X, tm', h') := hx
      cases hm : drawnC P nt ks ops.toList (infoD ops.toList []) with
      | none => rw [hm] at hx0; exact absurd hx0 (by show toX (codeM P .bad hook rec tm h) ≠ _; intro q; simp [codeM, C_bad, toX] at q)
      | some sts =>
        rw [hm] at hx0
        have hx' : toX (regM (dregM (callM P hook rec) sts tm h)) = some (X, tm', h') := hx0
        cases ho : dregM (callM P hook rec) sts tm h with
        | no l => rw [ho] at hx'; simp [regM, toX] at hx'
        | ok tm1 h1 =>
          rw [ho] at hx'
          have hx'' : some (Exit.normal, tm1, h1) = some (X, tm', h') := hx'
          injection hx'' with hx''
          cases hx''
          exact dreg_sound (callM_sound hh hr) hm ho I hT hs hd fun ν' w' a' st r1 r2 r3 => ⟨rfl, ν', st, r1, r2, r3⟩
    | false =>
      have hx0 : toX (codeM P (regOf (cmpOps P nt ks ops.toList [])) hook rec tm h) = some (X, tm', h') := hx
      cases hm : cmpOps P nt ks ops.toList [] with
      | none => rw [hm] at hx0; exact absurd hx0 (by show toX (codeM P .bad hook rec tm h) ≠ _; intro q; simp [codeM, C_bad, toX] at q)
      | some ms =>
        rw [hm] at hx0
        have hx' : toX (regM (opsM (callM P hook rec) ms [] tm h)) = some (X, tm', h') := hx0
        cases ho : opsM (callM P hook rec) ms [] tm h with
        | no l => rw [ho] at hx'; simp [regM, toX] at hx'
        | ok tm1 h1 =>
          rw [ho] at hx'
          have hx'' : some (Exit.normal, tm1, h1) = some (X, tm', h') := hx'
          injection hx'' with hx''
          cases hx''
          refine wp_region_list ?_
          have := ops_sound (callM_sound hh hr) (nt := nt) (ks := ks) (ops := ops.toList) (Q := PostE P ks nt ν h w .normal tm' h') ops.toList [] ms rfl hm [] tm h ho ν w a I hT (fun t i e => by simp [idxOf] at e) hs hd
            (fun ν' w' a' st r1 r2 r3 => ⟨rfl, ν', st, r1, r2, r3⟩)
          simpa using this
  | _ => exact absurd hx (by show toX (codeM P .bad hook rec tm h) ≠ _; intro q; simp [codeM, C_bad, toX] at q)

theorem runM_sound {hook : Hook} (hh : HookSound P hook) : ∀ n, RecSound P n (runM P hook n)
  | 0 => by
    intro nt ks c tm h X tm' h' hx
    have hx' : toX (.no [7784]) = some (X, tm', h') := hx
    simp [toX] at hx'
  | n + 1 => codeM_sound hh (runM_sound hh n)

/-- THE EVALUATOR IS RIGHT. -/
theorem evalM_sound {hook : Hook} (hh : HookSound P hook) (n : Nat) : CallSound P (evalM P hook n) := callM_sound hh (runM_sound hh n)

end Go.Ev
