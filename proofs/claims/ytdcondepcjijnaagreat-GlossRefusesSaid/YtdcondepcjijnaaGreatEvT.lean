/-
  THE EVALUATOR IS RIGHT: regions that draw their order, fifth text: one operation, whichever; the whole region.
-/
import Derived.Test.YtdcondepcjijnaaGreatEvS
namespace Go.Ev
open Go

variable {P : Program} {E : Env P} {S : Nat → Bool} {a : Act} {w : World} {ν : V} {H : Heap} {r : Rec} {p : List Rec}

theorem Inv.empty (ν : V) (n : Nat) (w : World) : Inv P ν ⟨n, .e⟩ w where
  bound := fun _ h => absurd rfl h
  okl := fun _ h => absurd rfl h
  obj := fun _ h => absurd rfl h
  inj := fun _ _ h => absurd rfl h

noncomputable def mergeH (n : Nat) (H X X' : Heap) : Heap :=
  heapF n (fun i => match X'.obj i with | .dead => (match X.obj i with | .dead => H.obj i | _ => .dead) | o => o) n
theorem mergeH_next (n : Nat) (H X X' : Heap) : (mergeH n H X X').next = n := heapF_next _ _ _
theorem mergeH_new {n : Nat} {H X X' : Heap} {i : Nat} (h : X'.obj i ≠ .dead) (hi : i < n) : (mergeH n H X X').obj i = X'.obj i := by
  unfold mergeH
  rw [heapF_obj, if_pos hi]
  cases hx : X'.obj i <;> first | rfl | exact absurd hx h
theorem mergeH_old {n : Nat} {H X X' : Heap} {i : Nat} (h : X'.obj i = .dead) (h' : X.obj i = .dead) (hi : i < n) : (mergeH n H X X').obj i = H.obj i := by
  unfold mergeH
  rw [heapF_obj, if_pos hi, h, h']
theorem mergeH_cases {n : Nat} {H X X' : Heap} (i : Nat) (h : (mergeH n H X X').obj i ≠ .dead) :
    (X'.obj i ≠ .dead ∧ (mergeH n H X X').obj i = X'.obj i) ∨ (X.obj i = .dead ∧ H.obj i ≠ .dead ∧ (mergeH n H X X').obj i = H.obj i) := by
  have hi : i < n := by
    rcases Nat.lt_or_ge i n with q | q
    · exact q
    · exact absurd (by unfold mergeH; rw [heapF_obj, if_neg (by omega)]) h
  rcases Classical.em (X'.obj i = .dead) with q | q
  · rcases Classical.em (X.obj i = .dead) with q' | q'
    · have e := mergeH_old (H := H) q q' hi
      exact .inr ⟨q', by rw [← e]; exact h, e⟩
    · exfalso
      apply h
      unfold mergeH
      rw [heapF_obj, if_pos hi, q]
      cases hx : X.obj i <;> first | rfl | exact absurd hx q'
  · exact .inl ⟨q, mergeH_new q hi⟩

theorem Inv.keep {Z X X' : Heap} {ν' : V} {w' : World} (IZ : Inv P ν Z w) (I : Inv P ν H w) (x : Step P ν X w ν' X' w') (hf : ∀ i, X.next ≤ i → i < X'.next → ¬ ν.ok i) (hX : ∀ i, X.obj i ≠ .dead → H.obj i ≠ .dead)
    (hZ : ∀ i, Z.obj i ≠ .dead → H.obj i ≠ .dead ∧ X.obj i = .dead) : Inv P ν' Z w' where
  bound := IZ.bound
  okl := fun i hi => (x.keeps hf i (IZ.okl i hi)).1
  obj := fun i hi => by
    obtain ⟨o, ho, q⟩ := IZ.obj i hi
    obtain ⟨h1, h2⟩ := hZ i hi
    exact ⟨o, by rw [(x.keeps hf i (IZ.okl i hi)).2.1, x.rest I hX h1 h2]; exact ho, ObjRel_mono P (x.keepsA hf _) (Nat.le_refl _) (IZ.has i hi) q⟩
  inj := fun i j hi hj e => by
    rw [(x.keeps hf i (IZ.okl i hi)).2.1, (x.keeps hf j (IZ.okl j hj)).2.1] at e
    exact IZ.inj i j hi hj e

theorem Env.float_lt {o : AObj} (hr : (r :: p) <:+ E.all) (hk : r.k = .free (some o)) : r.lo < r.hi := by
  have g := E.good r p hr
  have k := g.k
  rw [hk] at k
  obtain ⟨_, Y, _, h2, h3⟩ := k
  unfold freeO at h2
  cases hb : Nat.beq Y.next r.lo with
  | true => rw [hb] at h2; simp at h2
  | false => have := Nat.ne_of_beq_eq_false hb; have := g.le; omega

theorem JB.anc (j : JB E S a w ν H) (hr : (r :: p) <:+ E.all) {o : Oper} (ho : E.ops[r.i]? = some o) (hready : ∀ e ∈ o.after, Region.binds .any e = true → S e.on = true) : ∀ k, memB k r.st.anc = true → S k = true := by
  intro k hk
  obtain ⟨o', ho', hinf, _⟩ := E.link r p hr
  have : o' = o := by rw [ho] at ho'; exact (Option.some.inj ho').symm
  subst this
  obtain ⟨m, hm, hlt, hall⟩ := E.info.2 _ _ ho
  rw [hinf] at hm
  have : m = r.st.anc := by injection hm with q; injection q with _ q; exact q.symm
  subst this
  obtain ⟨e, he, hb, hke⟩ := hall k hk
  have hS := hready e (by simpa using he) (by rw [← bindsB_eq]; exact hb)
  rcases hke with rfl | ⟨d, m', hm', hk'⟩
  · exact hS
  · have h1 := hlt e he hb
    have h2 := E.lt hr
    obtain ⟨r', p', hr', hi'⟩ := E.at_ e.on (by omega)
    obtain ⟨o'', _, hinf', _⟩ := E.link r' p' hr'
    rw [hi', hm'] at hinf'
    have : m' = r'.st.anc := by injection hinf' with q; injection q with _ q
    subst this
    exact j.down r' p' hr' (by rw [hi']; exact hS) k hk'

/-- The part of the heap that an operation is run on. -/
theorem JC.part (jb : JB E S a w ν H) (jc : JC E S w ν H) (hr : (r :: p) <:+ E.all) (hanc : ∀ j, memB j r.st.anc = true → S j = true) (n : Nat) :
    (∀ x, (Heap.mk n (addP (selA r.st.anc (E.cur S).2.1) (E.cur S).1 p)).obj x ≠ .dead → H.obj x = (Heap.mk n (addP (selA r.st.anc (E.cur S).2.1) (E.cur S).1 p)).obj x) ∧
    (r.lo ≤ n → (E.cur S).2.2 ≤ n → Inv P ν ⟨n, addP (selA r.st.anc (E.cur S).2.1) (E.cur S).1 p⟩ w) := by
  have key : ∀ x, ob (addP (selA r.st.anc (E.cur S).2.1) (E.cur S).1 p) x ≠ .dead → H.obj x = ob (addP (selA r.st.anc (E.cur S).2.1) (E.cur S).1 p) x ∧
      (r.lo ≤ n → (E.cur S).2.2 ≤ n → x < n ∧ ∃ b, w.heap[ν.blk x]? = some b ∧ ObjRel P ν n x (ob (addP (selA r.st.anc (E.cur S).2.1) (E.cur S).1 p) x) b) := by
    intro x hx
    rcases addP_ob (selA r.st.anc (E.cur S).2.1) (E.cur S).1 x p with ⟨r', p', o, h1, h2, h3, h4, h5⟩ | ⟨h1, _⟩
    · have hr' := h1.trans ((List.suffix_cons r p).trans hr)
      simp only [selA, Bool.and_eq_true, Bool.not_eq_true'] at h3
      rw [h5] at hx ⊢
      obtain ⟨g1, g2, b, g3, g4⟩ := jc.fl r' p' o hr' h2 (hanc _ h3.1) h3.2 hx
      rw [h4] at g1 g3 g4
      refine ⟨g1, fun hlo _ => ?_⟩
      have hlt : r'.i < r.i := by
        have e1 := (E.good r p hr).i; have e2 := (E.good r' p' hr').i
        have := h1.length_le
        simp at this
        omega
      have h6 := E.hi_lo hr hr' hlt
      have h7 := E.float_lt hr' h2
      refine ⟨by omega, b, g3, ObjRel_mono P (V.agree.refl _ _) (by omega) ⟨by omega, ?_⟩ g4⟩
      exact jb.step.inv.okl x (by rw [g1]; exact hx)
    · rw [h1] at hx ⊢
      refine ⟨jc.base x hx, fun _ hc => ?_⟩
      obtain ⟨b, hb, q⟩ := jc.curI.obj x hx
      have hlt : x < (E.cur S).2.2 := jc.curI.bound x hx
      exact ⟨by omega, b, hb, ObjRel_mono P (V.agree.refl _ _) hc (jc.curI.has x hx) q⟩
  refine ⟨fun x hx => (key x hx).1, fun h1 h2 => ⟨fun x hx => ((key x hx).2 h1 h2).1, fun x hx => ?_, fun x hx => ((key x hx).2 h1 h2).2, fun x y hx hy e => ?_⟩⟩
  · exact jb.step.inv.okl x (by rw [(key x hx).1]; exact hx)
  · exact jb.step.inv.inj x y (by rw [(key x hx).1]; exact hx) (by rw [(key y hy).1]; exact hy) e

/-- Where nothing is turned. -/
theorem JB.still (jb : JB E S a w ν H) (hr : (r :: p) <:+ E.all) (hS : S r.i = false) (hanc : ∀ j, memB j r.st.anc = true → S j = true) {o : Oper} (ho : E.ops[r.i]? = some o) {u : Value} (hv : o.dst ≠ none → r.v.rel ν r.hi u) :
    JB E (addS S r.i) (a.put o.dst u) w ν H :=
  jb.upd hr hS hanc (X := ⟨E.nN, .e⟩) (X' := ⟨E.nN, .e⟩) (Step.refl (Inv.empty ν E.nN w)) (fun _ h => absurd rfl h) (Nat.le_trans (E.nx_lo hr) (Nat.le_trans (E.good r p hr).le (E.nx_hi hr))) (Nat.le_refl _) (fun i h1 h2 => absurd h1 (by show ¬ (E.nN ≤ i); have : i < E.nN := h2; omega))
    (fun r' p' hr' _ => .inl (E.nx_hi hr')) (fun i hi => .inr ⟨rfl, hi, rfl⟩) jb.next ho hv

theorem Env.cur_add (hr : (r :: p) <:+ E.all) (hk : ¬ isEff r.k) : E.cur (addS S r.i) = E.cur S :=
  curS_congr fun q s hq he => addS_ne fun e => by
    obtain ⟨rfl, _⟩ := E.uniq hq hr e
    exact hk he

theorem JC.still (jc : JC E S w ν H) (hr : (r :: p) <:+ E.all) (hk : ¬ isEff r.k) (hk' : ∀ o, r.k ≠ .free (some o)) : JC E (addS S r.i) w ν H where
  curI := by rw [Env.cur_add hr hk]; exact jc.curI
  base := by rw [Env.cur_add hr hk]; exact jc.base
  fl := fun r' p' o hr' hf hS' => by
    rw [Env.cur_add hr hk]
    have hne : r'.i ≠ r.i := fun e => by
      obtain ⟨rfl, _⟩ := E.uniq hr' hr e
      exact hk' o hf
    rw [addS_ne hne] at hS'
    exact jc.fl r' p' o hr' hf hS'

/-! Who reads was asked at each stage -/

theorem chkAll_spec {tm : Tm} {n : Nat} {t0 : T AObj} {all : List Rec} : ∀ {s : List Rec}, chkAll tm n t0 all s = true → ∀ q s', (q :: s') <:+ s → q.k = .read → chkR tm n t0 q s' all = true
  | [], _, q, s', h, _ => by simp at h
  | r :: p, hc, q, s', h, hk => by
    simp only [chkAll, Bool.and_eq_true] at hc
    rcases suffix_cons_cases h with ⟨rfl, rfl⟩ | h
    · have := hc.1
      rw [hk] at this
      exact this
    · exact chkAll_spec hc.2 q s' h hk

theorem hitsM_spec {i : Nat} : ∀ {s : List Rec}, hitsM i s = true → ∃ q s', (q :: s') <:+ s ∧ isEff q.k ∧ memB i q.st.anc = true
  | [], h => by simp [hitsM] at h
  | r :: p, h => by
    have more : hitsM i p = true → ∃ q s', (q :: s') <:+ (r :: p) ∧ isEff q.k ∧ memB i q.st.anc = true := fun h => by
      obtain ⟨q, s', h1, h2⟩ := hitsM_spec h
      exact ⟨q, s', h1.trans (List.suffix_cons r p), h2⟩
    simp only [hitsM] at h
    unfold hitK at h
    split at h
    · rename_i hk
      simp only [Bool.or_eq_true] at h
      rcases h with h | h
      · exact ⟨r, p, List.suffix_refl _, by rw [hk]; trivial, h⟩
      · exact more h
    · exact more h

theorem JB.chk (jb : JB E S a w ν H) (hr : (r :: p) <:+ E.all) (hS : S r.i = false) (hanc : ∀ j, memB j r.st.anc = true → S j = true) : ∀ s : List Rec, s <:+ E.all → chkR E.tm E.nN E.h0.t r p s = true →
    evalAt E.tm E.nN r p (curS S E.h0.t E.h0.next s).1 (curS S E.h0.t E.h0.next s).2.1 = true
  | [], _, h => h
  | q :: s, hs, h => by
    have hs' := (List.suffix_cons q s).trans hs
    simp only [chkR] at h
    show evalAt E.tm E.nN r p (bif S q.i then curK q.hi (curS S E.h0.t E.h0.next s) q.k else curS S E.h0.t E.h0.next s).1 (bif S q.i then curK q.hi (curS S E.h0.t E.h0.next s) q.k else curS S E.h0.t E.h0.next s).2.1 = true
    by_cases he : isEff q.k
    · cases hk : q.k with
      | eff t ab =>
        rw [hk] at h
        simp only [chkK, Bool.and_eq_true, Bool.or_eq_true] at h
        cases hq : S q.i with
        | true =>
          refine h.1.resolve_left fun hh => ?_
          obtain ⟨q', s', h1, h2, h3⟩ := hitsM_spec hh
          have hq' : S q'.i = true := by
            rcases suffix_cons_cases h1 with ⟨rfl, rfl⟩ | h1
            · exact hq
            · have g := (E.good q s hs).k
              rw [hk] at g
              exact jb.down q s hs hq _ (effIn_spec g.2.1 q' s' h1 h2)
          have := jb.down q' s' (h1.trans hs) hq' _ h3
          rw [hS] at this
          cases this
        | false =>
          refine jb.chk hr hS hanc s hs' (h.2.resolve_left fun hm => ?_)
          have := hanc _ hm
          rw [hq] at this
          cases this
      | _ => rw [hk] at he; exact he.elim
    · rw [curK_not he]
      have h' : chkR E.tm E.nN E.h0.t r p s = true := by
        cases hk : q.k with
        | eff t ab => rw [hk] at he; exact absurd trivial he
        | _ => rw [hk] at h; exact h
      have := jb.chk hr hS hanc s hs' h'
      cases S q.i <;> exact this

theorem Env.curOf_hi : ∀ s : List Rec, s <:+ E.all → (curOf E.h0.t E.h0.next s).2.2 ≤ nxOf E.h0.next s
  | [], _ => Nat.le_refl _
  | r :: p, hs => by
    show (curK r.hi (curOf E.h0.t E.h0.next p) r.k).2.2 ≤ r.hi
    have g := E.good r p hs
    have := Env.curOf_hi p ((List.suffix_cons r p).trans hs)
    have h1 := g.lo; have h2 := g.le
    cases r.k <;> first | exact Nat.le_refl _ | (show (curOf E.h0.t E.h0.next p).2.2 ≤ r.hi; omega)

/-- An operation that writes no old block: its new ones beside all the rest. -/
theorem J_free (jb : JB E S a w ν H) (jc : JC E S w ν H) (hr : (r :: p) <:+ E.all) (hS : S r.i = false) (hanc : ∀ j, memB j r.st.anc = true → S j = true) {o : Oper} (ho : E.ops[r.i]? = some o) {of : Option AObj} (hk : r.k = .free of)
    {Y : Heap} (hof : of = freeO r.lo Y) (hhi : r.hi = Y.next) {ν' : V} {w' : World} (x : Step P ν ⟨r.lo, .e⟩ w ν' Y w') {u : Value} (hv : o.dst ≠ none → r.v.rel ν' r.hi u) :
    ∃ ν' H', JB E (addS S r.i) (a.put o.dst u) w' ν' H' ∧ JC E (addS S r.i) w' ν' H' := by
  have hf : ∀ i, (Heap.mk r.lo .e).next ≤ i → i < Y.next → ¬ ν.ok i := fun i h1 h2 => jb.fresh r p hr hS i h1 (by omega)
  have hX : ∀ i, (Heap.mk r.lo .e).obj i ≠ .dead → H.obj i ≠ .dead := fun _ h => absurd rfl h
  have I := jb.step.inv
  have hbH : ∀ i, H.obj i ≠ .dead → i < E.nN := fun i hi => by rw [← jb.next]; exact I.bound i hi
  have hbY : ∀ i, Y.obj i ≠ .dead → i < E.nN := fun i hi => by have := x.inv.bound i hi; have := E.nx_hi hr; omega
  have hold : ∀ i, H.obj i ≠ .dead → (mergeH E.nN H ⟨r.lo, .e⟩ Y).obj i = H.obj i := fun i hi => mergeH_old (x.dead I hf hX hi rfl) rfl (hbH i hi)
  have hne : ¬ isEff r.k := by rw [hk]; exact id
  refine ⟨ν', mergeH E.nN H ⟨r.lo, .e⟩ Y, jb.upd hr hS hanc x hX (E.nx_lo hr) (by rw [← hhi]; exact E.nx_hi hr) hf (fun r' p' hr' hne' => ?_) (mergeH_cases) (mergeH_next _ _ _ _) ho hv, ⟨?_, ?_, ?_⟩⟩
  · rcases Nat.lt_or_ge r'.i r.i with q | q
    · exact .inl (E.hi_lo hr hr' q)
    · exact .inr (by rw [← hhi]; exact E.hi_lo hr' hr (by omega))
  · rw [Env.cur_add hr hne]
    exact jc.curI.keep I x hf hX fun i hi => ⟨by rw [jc.base i hi]; exact hi, rfl⟩
  · rw [Env.cur_add hr hne]
    intro i hi
    have h1 := jc.base i hi
    rw [hold i (by rw [h1]; exact hi)]; exact h1
  · rw [Env.cur_add hr hne]
    intro r' p' o' hr' hf' hS' hab ho'
    by_cases e : r'.i = r.i
    · obtain ⟨rfl, rfl⟩ := E.uniq hr' hr e
      have hlt := E.float_lt hr' hf'
      rw [hk] at hf'
      injection hf' with hf'
      rw [hof] at hf'
      have hoY : o' = Y.obj r'.lo := by
        unfold freeO at hf'
        cases hb : Nat.beq Y.next r'.lo <;> rw [hb] at hf' <;> simp at hf'
        exact hf'.symm
      have hl : Y.obj r'.lo ≠ .dead := by rw [← hoY]; exact ho'
      refine ⟨by rw [mergeH_new hl (hbY _ hl)]; exact hoY.symm, ?_, ?_⟩
      · rcases Classical.em (ob (E.cur S).1 r'.lo = .dead) with q | q
        · exact q
        · exfalso
          have h1 := jc.base _ q
          exact jb.fresh r' p' hr hS r'.lo (Nat.le_refl _) hlt (I.okl r'.lo (by rw [h1]; exact q))
      · obtain ⟨b, hb, hrel⟩ := x.inv.obj r'.lo hl
        exact ⟨b, hb, by rw [hhi, hoY]; exact hrel⟩
    · rw [addS_ne e] at hS'
      obtain ⟨g1, g2, b, g3, g4⟩ := jc.fl r' p' o' hr' hf' hS' hab ho'
      have hl : H.obj r'.lo ≠ .dead := by rw [g1]; exact ho'
      refine ⟨by rw [hold _ hl]; exact g1, g2, b, ?_, ?_⟩
      · rw [(x.keeps hf _ (I.okl _ hl)).2.1, x.rest I hX hl rfl]; exact g3
      · exact ObjRel_mono P (x.keepsA hf _) (Nat.le_refl _) ⟨E.float_lt hr' hf', I.okl _ hl⟩ g4

/-- An operation that writes. -/
theorem J_eff (jb : JB E S a w ν H) (jc : JC E S w ν H) (hr : (r :: p) <:+ E.all) (hS : S r.i = false) (hanc : ∀ j, memB j r.st.anc = true → S j = true) {o : Oper} (ho : E.ops[r.i]? = some o) {t : T AObj} {ab : Nat} (hk : r.k = .eff t ab)
    (hab : ab = Nat.lor r.st.anc (E.cur S).2.1) {ν' : V} {w' : World} (x : Step P ν ⟨r.lo, addP (selA r.st.anc (E.cur S).2.1) (E.cur S).1 p⟩ w ν' ⟨r.hi, t⟩ w') {u : Value} (hv : o.dst ≠ none → r.v.rel ν' r.hi u) :
    ∃ ν' H', JB E (addS S r.i) (a.put o.dst u) w' ν' H' ∧ JC E (addS S r.i) w' ν' H' := by
  generalize hXe : (Heap.mk r.lo (addP (selA r.st.anc (E.cur S).2.1) (E.cur S).1 p)) = X at x
  have hXn : X.next = r.lo := by rw [← hXe]
  have hf : ∀ i, X.next ≤ i → i < (Heap.mk r.hi t).next → ¬ ν.ok i := fun i h1 h2 => jb.fresh r p hr hS i (by omega) h2
  have hXH := (jc.part jb hr hanc r.lo).1
  rw [hXe] at hXH
  have hX : ∀ i, X.obj i ≠ .dead → H.obj i ≠ .dead := fun i hi => by rw [hXH i hi]; exact hi
  have I := jb.step.inv
  have hbH : ∀ i, H.obj i ≠ .dead → i < E.nN := fun i hi => by rw [← jb.next]; exact I.bound i hi
  have hbY : ∀ i, (Heap.mk r.hi t).obj i ≠ .dead → i < E.nN := fun i hi => by
    have h1 : i < r.hi := x.inv.bound i hi
    have := E.nx_hi hr; omega
  have hcur : E.cur (addS S r.i) = (t, ab, r.hi) := by
    unfold Env.cur
    rw [curS_skip hr fun q s' hq hs' he => ?_]
    · show (bif addS S r.i r.i then curK r.hi _ r.k else _) = _
      rw [addS_self, hk]; rfl
    · have hlt : r.i < q.i := by
        have e1 := (E.good r p hr).i; have e2 := (E.good q s' hq).i
        have := hs'.length_le
        simp at this
        omega
      rw [addS_ne (by omega)]
      cases hq' : S q.i with
      | false => rfl
      | true =>
        exfalso
        have g := (E.good q s' hq).k
        cases hqk : q.k with
        | eff t' ab' =>
          rw [hqk] at g
          have := jb.down q s' hq hq' _ (effIn_spec g.2.1 r p hs' (by rw [hk]; trivial))
          rw [hS] at this
          cases this
        | _ => rw [hqk] at he; exact he
  refine ⟨ν', mergeH E.nN H X ⟨r.hi, t⟩, jb.upd hr hS hanc x hX (by rw [hXn]; exact E.nx_lo hr) (E.nx_hi hr) hf (fun r' p' hr' hne' => ?_) mergeH_cases (mergeH_next _ _ _ _) ho hv, ⟨?_, ?_, ?_⟩⟩
  · rcases Nat.lt_or_ge r'.i r.i with q | q
    · exact .inl (by rw [hXn]; exact E.hi_lo hr hr' q)
    · exact .inr (E.hi_lo hr' hr (by omega))
  · rw [hcur]; exact x.inv
  · rw [hcur]
    intro i hi
    exact mergeH_new hi (hbY i hi)
  · rw [hcur]
    intro r' p' o' hr' hf' hS' hab' ho'
    have e : r'.i ≠ r.i := fun e => by
      obtain ⟨rfl, _⟩ := E.uniq hr' hr e
      rw [hk] at hf'; cases hf'
    rw [addS_ne e] at hS'
    simp only at hab'
    rw [hab, memB_or] at hab'
    simp only [Bool.or_eq_false_iff] at hab'
    obtain ⟨g1, g2, b, g3, g4⟩ := jc.fl r' p' o' hr' hf' hS' hab'.2 ho'
    have hl : H.obj r'.lo ≠ .dead := by rw [g1]; exact ho'
    have hd : X.obj r'.lo = .dead := by
      rw [← hXe]
      show ob (addP (selA r.st.anc (E.cur S).2.1) (E.cur S).1 p) r'.lo = .dead
      rcases addP_ob (selA r.st.anc (E.cur S).2.1) (E.cur S).1 r'.lo p with ⟨r2, p2, o2, h1, h2, h3, h4, h5⟩ | ⟨h1, _⟩
      · exfalso
        have hr2 := h1.trans ((List.suffix_cons r p).trans hr)
        have l1 := E.float_lt hr2 h2
        have l2 := E.float_lt hr' hf'
        have : r2.i = r'.i := by
          rcases Nat.lt_trichotomy r2.i r'.i with q | q | q
          · have := E.hi_lo hr' hr2 q; omega
          · exact q
          · have := E.hi_lo hr2 hr' q; omega
        simp only [selA, Bool.and_eq_true] at h3
        rw [this, hab'.1] at h3
        cases h3.1
      · rw [h1]; exact g2
    have hY := x.dead I hf hX hl hd
    refine ⟨by rw [mergeH_old hY hd (hbH _ hl)]; exact g1, hY, b, ?_, ?_⟩
    · rw [(x.keeps hf _ (I.okl _ hl)).2.1, x.rest I hX hl hd]; exact g3
    · exact ObjRel_mono P (x.keepsA hf _) (Nat.le_refl _) ⟨E.float_lt hr' hf', I.okl _ hl⟩ g4

/-- An operation that turns the frozen range of one marked row, and nothing else. -/
theorem J_mark (jb : JB E S a w ν H) (jc : JC E S w ν H) (hr : (r :: p) <:+ E.all) (hS : S r.i = false) (hanc : ∀ j, memB j r.st.anc = true → S j = true) {o : Oper} (ho : E.ops[r.i]? = some o) (hk : r.k = .read)
    {i : Nat} (hm : isMarked (H.obj i) = true) {cs : Array Value} {e : TypeId} {fz fz' : Nat × Nat} (hb : w.heap[ν.blk i]? = some (.cells cs e fz)) (ht : thaw cs.size fz') {u : Value} (hv : o.dst ≠ none → r.v.rel ν r.hi u) :
    JB E (addS S r.i) (a.put o.dst u) { w with heap := w.heap.setIfInBounds (ν.blk i) (.cells cs e fz') } ν H ∧ JC E (addS S r.i) { w with heap := w.heap.setIfInBounds (ν.blk i) (.cells cs e fz') } ν H := by
  have I := jb.step.inv
  have hd : H.obj i ≠ .dead := by intro q; rw [q] at hm; simp [isMarked] at hm
  have hlt := (Array.getElem?_eq_some_iff.1 hb).1
  have x := mark_stepS (P := P) I hm hb ht
  have hne : ¬ isEff r.k := by rw [hk]; exact id
  have hoth : ∀ k, k ≠ ν.blk i → ({ w with heap := w.heap.setIfInBounds (ν.blk i) (.cells cs e fz') } : World).heap[k]? = w.heap[k]? := fun k hk' => by
    simp only [Array.getElem?_setIfInBounds]; rw [if_neg (fun q => hk' q.symm)]
  have hat : ({ w with heap := w.heap.setIfInBounds (ν.blk i) (.cells cs e fz') } : World).heap[ν.blk i]? = some (.cells cs e fz') := by simp [hlt]
  -- of whatever block that is spoken of
  have turn : ∀ {y n : Nat} {ao : AObj} {b : Obj}, H.obj y = ao → ao ≠ .dead → w.heap[ν.blk y]? = some b → ObjRel P ν n y ao b → ∃ b', ({ w with heap := w.heap.setIfInBounds (ν.blk i) (.cells cs e fz') } : World).heap[ν.blk y]? = some b' ∧ ObjRel P ν n y ao b' := by
    intro y n ao b hy hyd hbk hrel
    by_cases q : ν.blk y = ν.blk i
    · have hyi : y = i := I.inj y i (by rw [hy]; exact hyd) hd q
      subst hyi
      rw [hb] at hbk
      cases hbk
      exact ⟨_, hat, marked_rel (by rw [← hy]; exact hm) ht hrel⟩
    · exact ⟨b, by rw [hoth _ q]; exact hbk, hrel⟩
  refine ⟨jb.upd hr hS hanc (X := H) (X' := H) x (fun _ h => h) (by rw [jb.next]; exact E.nx_mono E.all [] (List.suffix_refl _) (List.nil_suffix)) (Nat.le_of_eq jb.next) (fun i h1 h2 => absurd h1 (by omega)) (fun r' p' hr' _ => .inl (by rw [jb.next]; exact E.nx_hi hr')) (fun i hi => .inl ⟨hi, rfl⟩) jb.next ho hv, ⟨?_, ?_, ?_⟩⟩
  · rw [Env.cur_add hr hne]
    refine ⟨jc.curI.bound, jc.curI.okl, fun y hy => ?_, jc.curI.inj⟩
    obtain ⟨b, hbk, hrel⟩ := jc.curI.obj y hy
    exact turn (jc.base y hy) hy hbk hrel
  · rw [Env.cur_add hr hne]; exact jc.base
  · rw [Env.cur_add hr hne]
    intro r' p' o' hr' hf' hS' hab' ho'
    have e' : r'.i ≠ r.i := fun e => by
      obtain ⟨rfl, _⟩ := E.uniq hr' hr e
      rw [hk] at hf'; cases hf'
    rw [addS_ne e'] at hS'
    obtain ⟨g1, g2, b, g3, g4⟩ := jc.fl r' p' o' hr' hf' hS' hab' ho'
    obtain ⟨b', g5, g6⟩ := turn g1 ho' g3 g4
    exact ⟨g1, g2, b', g5, g6⟩

end Go.Ev
