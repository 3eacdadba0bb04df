/-
  THE EVALUATOR IS RIGHT: regions that draw their order, sixth text: the region.
-/
import Derived.Test.YtdcondepcjijnaaGreatEvT
namespace Go.Ev
open Go

variable {P : Program} {E : Env P} {S : Nat → Bool} {a : Act} {w : World} {ν : V} {H : Heap} {r : Rec} {p : List Rec}

theorem ltC_rel {m n : Nat} {v : AV} {u : Value} (h : ltC n v = true) (r : v.rel ν m u) : v.rel ν n u := by
  unfold ltC at h
  split at h
  · obtain ⟨l, e⟩ := r; exact ⟨⟨Nat.le_of_ble_eq_true h, l.2⟩, e⟩
  · obtain ⟨l, e⟩ := r; exact ⟨⟨Nat.le_of_ble_eq_true h, l.2⟩, e⟩
  · obtain ⟨l, e⟩ := r; exact ⟨⟨Nat.le_of_ble_eq_true h, l.2⟩, e⟩
  · obtain ⟨l, e⟩ := r; exact ⟨⟨Nat.le_of_ble_eq_true h, l.2⟩, e⟩
  · rcases r with r | ⟨l, e⟩
    · exact .inl r
    · exact .inr ⟨⟨Nat.le_of_ble_eq_true h, l.2⟩, e⟩
  · obtain ⟨l, e⟩ := r; exact ⟨⟨Nat.le_of_ble_eq_true h, l.2⟩, e⟩
  · obtain ⟨l, e⟩ := r; exact ⟨⟨Nat.le_of_ble_eq_true h, l.2⟩, e⟩
  · obtain ⟨l, l', e⟩ := r; simp only [Bool.and_eq_true] at h; exact ⟨⟨Nat.le_of_ble_eq_true h.1, l.2⟩, ⟨Nat.le_of_ble_eq_true h.2, l'.2⟩, e⟩
  · obtain ⟨f', c', e, x, y⟩ := r; exact ⟨f', c', e, x, y⟩
  · cases h
  · cases h
  · cases h
  · cases v with
    | ptr a => cases a <;> first | exact r | simp_all
    | slice a l c e => cases a <;> cases e <;> first | exact r | simp_all
    | map a => cases a <;> first | exact r | simp_all
    | func f a b => simp_all
    | agg cs => simp_all
    | tuple cs => simp_all
    | sliceU i a b => simp_all
    | sliceF i a b => simp_all
    | sliceT i a b => simp_all
    | rngT k a b i c => exact (‹∀ (k_1 : IntKind) (lo hi : Int) (i_1 c_1 : Nat), AV.rngT k a b i c = AV.rngT k_1 lo hi i_1 c_1 → False› k a b i c rfl).elim
    | sliceV q a b i c => exact (‹∀ (q_1 lo hi i_1 c_1 : Nat), AV.sliceV q a b i c = AV.sliceV q_1 lo hi i_1 c_1 → False› q a b i c rfl).elim
    | _ => exact r
theorem ltCs_rel {m n : Nat} : ∀ {l : List AV} {s : List Value}, ltCs n l = true → relL ν m l s → relL ν n l s
  | [], _, _, r => r
  | v :: l, _, h, ⟨u, s, e, x, y⟩ => by
    simp only [ltCs, Bool.and_eq_true] at h
    exact ⟨u, s, e, ltC_rel h.1 x, ltCs_rel h.2 y⟩
theorem ltV_rel {m n : Nat} {v : AV} {u : Value} (h : ltV n v = true) (r : v.rel ν m u) : v.rel ν n u := by
  unfold ltV at h
  split at h
  · obtain ⟨vs, e, x⟩ := r; exact ⟨vs, e, ltCs_rel h x⟩
  · obtain ⟨vs, e, x⟩ := r; exact ⟨vs, e, ltCs_rel h x⟩
  · exact ltC_rel h r

def J (E : Env P) (S : Nat → Bool) (a : Act) (w : World) : Prop := ∃ ν H, JB E S a w ν H ∧ JC E S w ν H

theorem op_step {Q : Exit → Act → World → Prop} (j : J E S a w) {i : Nat} {o : Oper} (ho : E.ops[i]? = some o) (hS : S i = false) (hready : ∀ e ∈ o.after, Region.binds .any e = true → S e.on = true)
    (K : Act → World → Prop) (hK : ∀ a' w', J E (addS S i) a' w' → K a' w') : wpOp P E.ops.toArray Q i K a w := by
  obtain ⟨ν, H, jb, jc⟩ := j
  have hi : i < E.ops.length := (List.getElem?_eq_some_iff.1 ho).1
  obtain ⟨r, p, hr, rfl⟩ := E.at_ i hi
  have hanc := jb.anc hr ho hready
  have g := E.good r p hr
  obtain ⟨o', ho', hinf, hf, hg, hkeep, hcls⟩ := E.link r p hr
  have : o' = o := by rw [ho] at ho'; exact (Option.some.inj ho').symm
  subst this
  have hR := jb.R hr hS hanc
  have hRn : ∀ n, r.lo ≤ n → ∀ x, (evO r.loc E.tm (cmpOD E.ks (dsOf E.ops r.i) r.st.anc (E.inf.drop (r.i + 1)) x)).rel ν n (a.eval x) := fun n hn x => AV.rel_mono (V.agree.refl _ _) hn _ _ (hR x)
  unfold wpOp
  simp only [List.getElem?_toArray, ho]
  have gk := g.k
  cases hk : r.k with
  | skip =>
    rw [hk] at gk
    obtain ⟨hw, hv, _⟩ := gk
    rw [jb.wanted hr hS hanc ho hw, if_neg (by simp)]
    refine hK _ _ ⟨ν, H, jb.still hr hS hanc ho fun _ => ?_, jc.still hr (by rw [hk]; exact id) (by rw [hk]; simp)⟩
    rw [hv]; exact ⟨#[], rfl, rfl⟩
  | free of =>
    rw [hk] at gk
    obtain ⟨hw, Y, hv, hof, hhi⟩ := gk
    rw [jb.wanted hr hS hanc ho hw, if_pos rfl]
    refine .inl ?_
    have res := cmpOpD_sound hf ν ⟨r.lo, .e⟩ w (evO r.loc E.tm) a.eval o' rfl (Inv.empty ν _ w) hR _ hv
    obtain ⟨u, w1, ν1, hrun, st, rv⟩ := res
    unfold Oper.wp
    rw [hrun]
    exact hK _ _ (J_free jb jc hr hS hanc ho hk hof hhi st fun _ => by rw [hhi]; exact rv)
  | read =>
    rw [hk] at gk
    obtain ⟨hw, hc, hhi, hlt⟩ := gk
    rw [jb.wanted hr hS hanc ho hw, if_pos rfl]
    refine .inl ?_
    have hchk := jb.chk hr hS hanc E.all (List.suffix_refl _) (chkAll_spec E.chk r p hr hk)
    have hlo : r.lo ≤ E.nN := Nat.le_trans g.le (E.nx_hi hr)
    have hcn : (E.cur S).2.2 ≤ E.nN := by
      -- the writers' last number
      have : ∀ s : List Rec, s <:+ E.all → (curS S E.h0.t E.h0.next s).2.2 ≤ E.nN := by
        intro s
        induction s with
        | nil => intro _; exact E.nx_mono E.all [] (List.suffix_refl _) (List.nil_suffix)
        | cons q s ih =>
          intro hs
          have h1 := ih ((List.suffix_cons q s).trans hs)
          show (bif S q.i then curK q.hi (curS S E.h0.t E.h0.next s) q.k else curS S E.h0.t E.h0.next s).2.2 ≤ E.nN
          cases S q.i with
          | false => exact h1
          | true =>
            show (curK q.hi (curS S E.h0.t E.h0.next s) q.k).2.2 ≤ E.nN
            cases q.k <;> first | exact h1 | exact E.nx_hi hs
      exact this E.all (List.suffix_refl _)
    have I := (jc.part jb hr hanc E.nN).2 hlo hcn
    unfold evalAt eqRead at hchk
    split at hchk
    · rename_i v' h' hev
      have hv := eqAV_tt hchk
      rcases hc with hc | hc
      rotate_left
      · obtain ⟨s, d, x, hop, hsl, hfm⟩ := cls3 hf (by rw [← hcls]; exact hc)
        rw [hfm] at hev
        obtain ⟨v1, u, i, cs, el, fz, fz', h1, rv, hmk, hbk, hth, hrun⟩ := mark_run s d x hsl I (hRn _ hlo) o' hop hev
        injection h1 with h1 _
        have hXH := (jc.part jb hr hanc E.nN).1
        have hmH : isMarked (H.obj i) = true := by
          rw [hXH i (by intro q; rw [q] at hmk; simp [isMarked] at hmk)]; exact hmk
        unfold Oper.wp
        rw [hrun]
        rw [hv] at hlt
        obtain ⟨j1, j2⟩ := J_mark jb jc hr hS hanc ho hk hmH hbk hth (u := u) fun _ => by
          rw [hhi, hv]
          exact ltV_rel hlt (by rw [h1]; exact rv)
        exact hK _ _ ⟨ν, H, j1, j2⟩
      obtain ⟨v1, u, h1, hrun, rv⟩ := read_soundD hf (by rw [← hcls]; exact hc) ν _ w (evO r.loc E.tm) a.eval o' rfl I (hRn _ hlo) _ hev
      injection h1 with h1 _
      unfold Oper.wp
      rw [hrun]
      refine hK _ _ ⟨ν, H, jb.still hr hS hanc ho fun _ => ?_, jc.still hr (by rw [hk]; exact id) (by rw [hk]; simp)⟩
      rw [hhi, hv]
      rw [hv] at hlt
      exact ltV_rel hlt (by rw [h1]; exact rv)
    · cases hchk
  | eff t ab =>
    rw [hk] at gk
    obtain ⟨hw, hef, hab, out, hev, hout⟩ := gk
    rw [jb.wanted hr hS hanc ho hw, if_pos rfl]
    refine .inl ?_
    have hcur : E.cur S = curOf E.h0.t E.h0.next p := by
      unfold Env.cur
      rw [curS_skip ((List.suffix_cons r p).trans hr) fun q s' hq hs' he => ?_]
      · exact curS_of fun q s hq he => hanc _ (effIn_spec hef q s hq he)
      · by_cases e : q.i = r.i
        · rw [e]; exact hS
        · have hlt : r.i < q.i := by
            have e1 := (E.good r p hr).i; have e2 := (E.good q s' hq).i
            have := hs'.length_le
            omega
          cases hq' : S q.i with
          | false => rfl
          | true =>
            exfalso
            have gq := (E.good q s' hq).k
            cases hqk : q.k with
            | eff t' ab' =>
              rw [hqk] at gq
              have := jb.down q s' hq hq' _ (effIn_spec gq.2.1 r p (E.before hq hr hlt) (by rw [hk]; trivial))
              rw [hS] at this
              cases this
            | _ => rw [hqk] at he; exact he
    have hcn : (E.cur S).2.2 ≤ r.lo := by
      rw [hcur, g.lo]; exact Env.curOf_hi p ((List.suffix_cons r p).trans hr)
    rw [← hcur] at hev hab
    have I := (jc.part jb hr hanc r.lo).2 (Nat.le_refl _) hcn
    have fin : ∀ {ν1 : V} {w1 : World} {u : Value}, Step P ν ⟨r.lo, addP (selA r.st.anc (E.cur S).2.1) (E.cur S).1 p⟩ w ν1 ⟨r.hi, t⟩ w1 → r.v.rel ν1 r.hi u → K (a.put o'.dst u) w1 := fun st rv =>
      hK _ _ (J_eff jb jc hr hS hanc ho hk hab st fun _ => rv)
    have res := cmpOpD_sound hf ν _ w (evO r.loc E.tm) a.eval o' rfl I hR out hev
    unfold Oper.wp
    cases out with
    | val v h1 =>
      obtain ⟨rfl, rfl⟩ := hout
      obtain ⟨u, w1, ν1, hrun, st, rv⟩ := res
      rw [hrun]
      exact fin st rv
    | skip h1 =>
      obtain ⟨hv, rfl⟩ := hout
      obtain ⟨w1, ν1, hrun, st⟩ := res
      rw [hrun]
      exact fin st (by rw [hv]; exact ⟨#[], rfl, rfl⟩)
    | enter fn args h1 =>
      obtain ⟨rfl, vs, hrun, ra⟩ := res
      rw [hrun]
      have ok := E.hc fn args _ r.v _ hout ν w vs I ra
      generalize (callFunc fn vs.toArray).run P w = rr at ok
      unfold CallOK at ok
      split at ok
      · refine Calls.mono ok ?_
        rintro e w' ⟨u, ν', rfl, st, rv⟩
        exact fin st rv
      · obtain ⟨ν', st, rv⟩ := ok
        exact fin st rv
      · exact ok.elim

/-! The slots behind the region -/

theorem tmOf_get {t i : Nat} (hp : posOf t E.ks = some i) : ∀ s : List Rec, s <:+ E.all →
    (∃ r p, (r :: p) <:+ s ∧ E.dst r.i = some t ∧ getT (tmOf E.tm s) (pathN i) = r.v) ∨
    ((∀ r p, (r :: p) <:+ s → E.dst r.i ≠ some t) ∧ getT (tmOf E.tm s) (pathN i) = getT E.tm (pathN i))
  | [], _ => .inr ⟨fun r p h => by simp at h, rfl⟩
  | r :: p, hs => by
    have ih := tmOf_get hp p ((List.suffix_cons r p).trans hs)
    obtain ⟨o, ho, _, _, _, hk, _⟩ := E.link r p hs
    have hd : E.dst r.i = o.dst := by simp [Env.dst, ho]
    have go : E.dst r.i ≠ some t → getT (tmOf E.tm (r :: p)) (pathN i) = getT (tmOf E.tm p) (pathN i) →
        (∃ r' p', (r' :: p') <:+ (r :: p) ∧ E.dst r'.i = some t ∧ getT (tmOf E.tm (r :: p)) (pathN i) = r'.v) ∨
        ((∀ r' p', (r' :: p') <:+ (r :: p) → E.dst r'.i ≠ some t) ∧ getT (tmOf E.tm (r :: p)) (pathN i) = getT E.tm (pathN i)) := by
      intro hne e
      rcases ih with ⟨r', p', h1, h2, h3⟩ | ⟨h1, h2⟩
      · exact .inl ⟨r', p', h1.trans (List.suffix_cons r p), h2, e.trans h3⟩
      · refine .inr ⟨fun r' p' h => ?_, e.trans h2⟩
        rcases suffix_cons_cases h with ⟨rfl, rfl⟩ | h
        · exact hne
        · exact h1 r' p' h
    cases hod : o.dst with
    | none =>
      rw [hod] at hk hd
      simp only [keepOf, Option.some.injEq] at hk
      refine go (by rw [hd]; simp) ?_
      show getT (putK (tmOf E.tm p) r.v r.st.keep) (pathN i) = _
      rw [← hk]; rfl
    | some d =>
      rw [hod] at hk hd
      simp only [keepOf] at hk
      obtain ⟨_, hk⟩ := cond_some hk
      by_cases e : d = t
      · subst e
        rw [hp] at hk
        refine .inl ⟨r, p, List.suffix_refl _, hd, ?_⟩
        show getT (putK (tmOf E.tm p) r.v r.st.keep) (pathN i) = _
        rw [← hk]
        show getT ((tmOf E.tm p).put (pathN i) r.v) (pathN i) = _
        rw [getT_put, if_pos rfl]
      · refine go (by rw [hd]; simpa using e) ?_
        show getT (putK (tmOf E.tm p) r.v r.st.keep) (pathN i) = _
        rw [← hk]
        cases hq : posOf d E.ks with
        | none => rfl
        | some k =>
          show getT ((tmOf E.tm p).put (pathN k) r.v) (pathN i) = _
          have hne : pathN k ≠ pathN i := by
            intro q
            have := pathN_inj q
            subst this
            have h1 := posOf_get hq
            have h2 := posOf_get hp
            rw [h1] at h2
            exact e (by simpa using h2)
          rw [getT_put, if_neg hne]

theorem curS_false (t0 : T AObj) (n0 : Nat) : ∀ s : List Rec, curS (fun _ => false) t0 n0 s = (t0, 0, n0)
  | [] => rfl
  | _ :: s => curS_false t0 n0 s

theorem Inv.clear {h : Heap} (I : Inv P ν h w) (m d : Nat) : Inv P (ν.clear h.next m) h { w with drawn := d } where
  bound := I.bound
  okl := fun i hi => ⟨I.okl i hi, fun q => by have := I.bound i hi; omega⟩
  obj := fun i hi => by
    obtain ⟨o, ho, r⟩ := I.obj i hi
    exact ⟨o, ho, ObjRel_mono P (show ν.agree (ν.clear h.next m) h.next from fun j hj => ⟨⟨hj.2, fun q => by have := hj.1; omega⟩, rfl, rfl, rfl, rfl, rfl⟩) (Nat.le_refl _) (I.has i hi) r⟩
  inj := I.inj

theorem J_start (I : Inv P E.ν0 E.h0 E.w0) (hs : E.a0.tmps.size = E.nt) (hd : E.a0.defers = []) (d : Nat) : J E (fun _ => false) E.a0 { E.w0 with drawn := d } := by
  have hm : E.h0.next ≤ E.nN := E.nx_mono E.all [] (List.suffix_refl _) (List.nil_suffix)
  refine ⟨E.ν0.clear E.h0.next E.nN, ⟨E.nN, E.h0.t⟩, ⟨Step.grow I hm d, rfl, ?_, ?_, ?_, fun t _ => rfl, hs, hd⟩, ⟨?_, ?_, ?_⟩⟩
  · intro r p hr _ x h1 h2 q
    exact q.2 ⟨Nat.le_trans (E.nx_lo hr) h1, Nat.lt_of_lt_of_le h2 (E.nx_hi hr)⟩
  · intro r p _ h; cases h
  · intro r p _ h; cases h
  · unfold Env.cur; rw [curS_false]; exact I.clear _ d
  · unfold Env.cur; rw [curS_false]; exact fun x _ => rfl
  · intro r p o _ _ h; cases h

theorem J_end (j : J E S a w) (hall : ∀ i, i < E.ops.length → S i = true) : ∃ ν', Step P E.ν0 E.h0 E.w0 ν' ⟨E.nN, addP (selE (curOf E.h0.t E.h0.next E.all).2.1) (curOf E.h0.t E.h0.next E.all).1 E.all⟩ w ∧
    RelT E.ks ν' E.nN (tmOf E.tm E.all) a.tmps ∧ a.tmps.size = E.nt ∧ a.defers = [] := by
  obtain ⟨ν, H, jb, jc⟩ := j
  have hcur : E.cur S = curOf E.h0.t E.h0.next E.all := curS_of fun q s hq _ => hall _ (E.lt hq)
  refine ⟨ν, jb.step.weaken (fun x hx => ?_) jb.next.symm, ?_, jb.size, jb.defers⟩
  · rw [← hcur] at hx ⊢
    show H.obj x = ob (addP (selE (E.cur S).2.1) (E.cur S).1 E.all) x
    have hx : ob (addP (selE (E.cur S).2.1) (E.cur S).1 E.all) x ≠ .dead := hx
    rcases addP_ob (selE (E.cur S).2.1) (E.cur S).1 x E.all with ⟨r', p', o, h1, h2, h3, h4, h5⟩ | ⟨h1, _⟩
    · rw [h5] at hx ⊢
      simp only [selE, Bool.not_eq_true'] at h3
      obtain ⟨g1, _⟩ := jc.fl r' p' o h1 h2 (hall _ (E.lt h1)) h3 hx
      rw [← h4]; exact g1
    · rw [h1] at hx ⊢
      exact jc.base x hx
  · intro t i hp
    rcases tmOf_get (E := E) hp E.all (List.suffix_refl _) with ⟨r', p', h1, h2, h3⟩ | ⟨h1, h2⟩
    · rw [h3]
      exact AV.rel_mono (V.agree.refl _ _) (E.nx_hi h1) _ _ (jb.val r' p' h1 (hall _ (E.lt h1)) t h2)
    · rw [h2, jb.old t fun r' p' hr' _ => h1 r' p' hr']
      exact AV.rel_mono jb.step.ext (E.nx_mono E.all [] (List.suffix_refl _) (List.nil_suffix)) _ _ (E.hT t i hp)

/-- A REGION THAT DRAWS ITS ORDER. -/
theorem dreg_sound {call : CallE} (hc : CallSound P call) {nt : Nat} {ks : List Nat} {ops : Array Oper} {sts : List DStep} (hm : drawnC P nt ks ops.toList (infoD ops.toList []) = some sts) {tm tmE : Tm} {h hE : Heap} (hrun : dregM call sts tm h = .ok tmE hE)
    {a : Act} (I : Inv P ν h w) (hT : RelT ks ν h.next tm a.tmps) (hs : a.tmps.size = nt) (hd : a.defers = []) {id : Nat} {Q : Exit → Act → World → Prop}
    (hQ : ∀ ν' w' a', Step P ν h w ν' hE w' → RelT ks ν' hE.next tmE a'.tmps → a'.tmps.size = nt → a'.defers = [] → Q .normal a' w') : (Code.region id ops true).wp P Q a w := by
  cases hi : infoD ops.toList [] with
  | none => rw [hi] at hm; simp [drawnC] at hm
  | some inf =>
    rw [hi] at hm
    simp only [drawnC] at hm
    obtain ⟨hb, hm⟩ := cond_opt hm
    simp only [Bool.and_eq_true] at hb
    have hinfo := infoD_ok hi
    obtain ⟨hlen, hlink⟩ := cmpDs_link hinfo ops.toList [] inf sts rfl (by simp) (by simpa using hm)
    obtain ⟨all, hg, hst, hchk, e1, e2⟩ := dops_good (t0 := h.t) (n0 := h.next) sts [] [] 0 h.next h.t 0 hrun (fun r p hr => by simp at hr) rfl rfl rfl rfl rfl
    simp only [List.map_nil, List.reverse_nil, List.nil_append] at hst
    have hal : all.length = ops.toList.length := by rw [← hlen, ← hst]; simp
    have hl : ∀ r p, (r :: p) <:+ all → LinkS P nt ks ops.toList inf r.i r.st := by
      intro r p hr
      have := hlink r.i r.st (by
        rw [← hst, (hg r p hr).i]
        obtain ⟨A, rfl⟩ := hr
        simp)
      simpa using this
    let E : Env P := ⟨call, nt, ks, tm, ops.toList, inf, all, ν, h, w, a, hc, hg, hl, hal, hinfo, hb.2, hT, hchk⟩
    refine wp_region_any hb.1 ?_
    refine wpAny_set (J E) ?_ ?_ ?_ ops.size _ _ _ (by simp) ?_ ?_
    · intro i o ho e he hbd
      obtain ⟨m, _, h1, _⟩ := hinfo.2 i o (by simpa using ho)
      exact h1 e (by simpa using he) (by rw [bindsB_eq]; exact hbd)
    · intro S a' w' i o j ho hS hready K hK
      have := op_step (Q := Q) j (show E.ops[i]? = some o by simpa [E] using ho) hS hready K hK
      simpa [E] using this
    · intro S a' w' j hall
      obtain ⟨ν', st, r1, r2, r3⟩ := J_end j (fun i hi => hall i (by simpa [E] using hi))
      subst e2 e1
      exact hQ ν' w' a' st r1 r2 r3
    · exact Nat.le_trans (List.length_filter_le _ _) (by simp)
    · have : (fun i => (Array.replicate ops.size false).getD i false) = fun _ => false := by
        funext i
        simp only [Array.getD_eq_getD_getElem?, Array.getElem?_replicate]
        split <;> rfl
      rw [this]
      exact J_start (E := E) I hs hd _

end Go.Ev
