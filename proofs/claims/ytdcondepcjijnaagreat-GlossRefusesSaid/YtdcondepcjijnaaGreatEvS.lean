/-
  THE EVALUATOR IS RIGHT: regions that draw their order, fourth text: what holds when a set of the operations is done.
-/
import Derived.Test.YtdcondepcjijnaaGreatEvR
namespace Go.Ev
open Go

variable {P : Program}

structure Env (P : Program) where
  call : CallE
  nt : Nat
  ks : List Nat
  tm : Tm
  ops : List Oper
  inf : List (Option Nat × Nat)
  all : List Rec
  ν0 : V
  h0 : Heap
  w0 : World
  a0 : Act
  hc : CallSound P call
  good : ∀ r p, (r :: p) <:+ all → GoodR call tm h0.t h0.next r p
  link : ∀ r p, (r :: p) <:+ all → LinkS P nt ks ops inf r.i r.st
  len : all.length = ops.length
  info : InfoOK ops inf
  nodup : nodupD (ops.map (·.dst)) = true
  hT : RelT ks ν0 h0.next tm a0.tmps
  chk : chkAll tm (nxOf h0.next all) h0.t all all = true

variable (E : Env P)
def Env.nN : Nat := nxOf E.h0.next E.all

theorem Env.nx_mono : ∀ (s s' : List Rec), s <:+ E.all → s' <:+ s → nxOf E.h0.next s' ≤ nxOf E.h0.next s
  | [], s', _, h => by rw [List.suffix_nil.1 h]; exact Nat.le_refl _
  | r :: p, s', hs, h => by
    rcases List.suffix_cons_iff.1 h with rfl | h
    · exact Nat.le_refl _
    · have g := E.good r p hs
      have := Env.nx_mono p s' ((List.suffix_cons r p).trans hs) h
      show nxOf E.h0.next s' ≤ r.hi
      have h1 := g.lo; have h2 := g.le
      omega
theorem Env.nx_lo {r : Rec} {p : List Rec} (hr : (r :: p) <:+ E.all) : E.h0.next ≤ r.lo := by
  have := E.nx_mono p [] ((List.suffix_cons r p).trans hr) (List.nil_suffix)
  rw [(E.good r p hr).lo]; exact this
theorem Env.nx_hi {r : Rec} {p : List Rec} (hr : (r :: p) <:+ E.all) : r.hi ≤ E.nN := E.nx_mono E.all (r :: p) (List.suffix_refl _) hr
theorem Env.uniq {r r' : Rec} {p p' : List Rec} (hr : (r :: p) <:+ E.all) (hr' : (r' :: p') <:+ E.all) (e : r.i = r'.i) : r = r' ∧ p = p' := by
  have h1 := (E.good r p hr).i; have h2 := (E.good r' p' hr').i
  have := (List.suffix_of_suffix_length_le hr hr' (by simp; omega)).eq_of_length (by simp; omega)
  injection this with a b
  exact ⟨a, b⟩
theorem Env.before {r r' : Rec} {p p' : List Rec} (hr : (r :: p) <:+ E.all) (hr' : (r' :: p') <:+ E.all) (e : r'.i < r.i) : (r' :: p') <:+ p := by
  have h1 := (E.good r p hr).i; have h2 := (E.good r' p' hr').i
  exact List.suffix_of_suffix_length_le hr' ((List.suffix_cons r p).trans hr) (by simp; omega)
theorem Env.hi_lo {r r' : Rec} {p p' : List Rec} (hr : (r :: p) <:+ E.all) (hr' : (r' :: p') <:+ E.all) (e : r'.i < r.i) : r'.hi ≤ r.lo := by
  have := E.nx_mono p (r' :: p') ((List.suffix_cons r p).trans hr) (E.before hr hr' e)
  rw [(E.good r p hr).lo]; exact this
theorem Env.lt {r : Rec} {p : List Rec} (hr : (r :: p) <:+ E.all) : r.i < E.ops.length := by
  have h1 := (E.good r p hr).i
  have h2 := hr.length_le
  have := E.len
  simp at h2
  omega
theorem Env.at_ (i : Nat) (hi : i < E.ops.length) : ∃ r p, (r :: p) <:+ E.all ∧ r.i = i := by
  have hl := E.len
  have hs : E.all.drop (E.all.length - 1 - i) <:+ E.all := List.drop_suffix _ _
  cases hd : E.all.drop (E.all.length - 1 - i) with
  | nil => have := congrArg List.length hd; simp at this; omega
  | cons r p =>
    rw [hd] at hs
    refine ⟨r, p, hs, ?_⟩
    have := congrArg List.length hd
    simp at this
    rw [(E.good r p hs).i]
    omega

/-! What is held in a heap's tree -/

noncomputable def ob (t : T AObj) (x : Nat) : AObj := orDead (t.get (pathN x))
theorem obj_mk (n : Nat) (t : T AObj) (x : Nat) : (Heap.mk n t).obj x = ob t x := rfl
theorem ob_put (t : T AObj) (i x : Nat) (o : AObj) : ob (t.put (pathN i) o) x = if i = x then o else ob t x := Heap.obj_set ⟨0, t⟩ i o x

theorem addP_ob (sel : Nat → Bool) (t : T AObj) (x : Nat) : ∀ s : List Rec,
    (∃ r p o, (r :: p) <:+ s ∧ r.k = .free (some o) ∧ sel r.i = true ∧ r.lo = x ∧ ob (addP sel t s) x = o) ∨
    (ob (addP sel t s) x = ob t x ∧ ∀ r p o, (r :: p) <:+ s → r.k = .free (some o) → sel r.i = true → r.lo ≠ x)
  | [] => .inr ⟨rfl, fun r p o h => by simp at h⟩
  | r :: p => by
    have ih := addP_ob sel t x p
    have skip : (ob (addP sel t (r :: p)) x = ob (addP sel t p) x) → (∀ o, r.k = .free (some o) → sel r.i = true → r.lo ≠ x) →
        (∃ r' p' o, (r' :: p') <:+ (r :: p) ∧ r'.k = .free (some o) ∧ sel r'.i = true ∧ r'.lo = x ∧ ob (addP sel t (r :: p)) x = o) ∨
        (ob (addP sel t (r :: p)) x = ob t x ∧ ∀ r' p' o, (r' :: p') <:+ (r :: p) → r'.k = .free (some o) → sel r'.i = true → r'.lo ≠ x) := by
      intro e hne
      rcases ih with ⟨r', p', o, h1, h2, h3, h4, h5⟩ | ⟨h1, h2⟩
      · exact .inl ⟨r', p', o, h1.trans (List.suffix_cons r p), h2, h3, h4, e.trans h5⟩
      · refine .inr ⟨e.trans h1, fun r' p' o h => ?_⟩
        rcases suffix_cons_cases h with ⟨rfl, rfl⟩ | h
        · exact hne o
        · exact h2 r' p' o h
    cases hk : r.k with
    | free o =>
      cases o with
      | none => exact skip (by show ob (addK sel r.i r.lo (addP sel t p) r.k) x = _; rw [hk]; rfl) (by rw [hk]; simp)
      | some o =>
        cases hs : sel r.i with
        | false => exact skip (by show ob (addK sel r.i r.lo (addP sel t p) r.k) x = _; rw [hk]; simp [addK, hs]) (by simp [hs])
        | true =>
          by_cases hx : r.lo = x
          · refine .inl ⟨r, p, o, List.suffix_refl _, hk, hs, hx, ?_⟩
            show ob (addK sel r.i r.lo (addP sel t p) r.k) x = o
            rw [hk]; simp [addK, hs, ob_put, hx]
          · exact skip (by show ob (addK sel r.i r.lo (addP sel t p) r.k) x = _; rw [hk]; simp [addK, hs, ob_put, hx]) (fun _ _ _ => hx)
    | skip => exact skip (by show ob (addK sel r.i r.lo (addP sel t p) r.k) x = _; rw [hk]; rfl) (by rw [hk]; simp)
    | read => exact skip (by show ob (addK sel r.i r.lo (addP sel t p) r.k) x = _; rw [hk]; rfl) (by rw [hk]; simp)
    | eff t' ab => exact skip (by show ob (addK sel r.i r.lo (addP sel t p) r.k) x = _; rw [hk]; rfl) (by rw [hk]; simp)

/-! Who writes -/

def isEff : DK → Prop
  | .eff _ _ => True
  | _ => False

def curS (S : Nat → Bool) (t0 : T AObj) (n0 : Nat) : List Rec → T AObj × Nat × Nat
  | [] => (t0, 0, n0)
  | r :: p => bif S r.i then curK r.hi (curS S t0 n0 p) r.k else curS S t0 n0 p

theorem curK_not {hi : Nat} {x : T AObj × Nat × Nat} {k : DK} (h : ¬ isEff k) : curK hi x k = x := by
  cases k <;> first | rfl | exact absurd trivial h
theorem effIn_spec {anc : Nat} : ∀ {p : List Rec}, effIn anc p = true → ∀ q s, (q :: s) <:+ p → isEff q.k → memB q.i anc = true
  | [], _, q, s, h, _ => by simp at h
  | r :: p, he, q, s, h, hq => by
    simp only [effIn, Bool.and_eq_true] at he
    rcases suffix_cons_cases h with ⟨rfl, rfl⟩ | h
    · cases hk : q.k <;> rw [hk] at hq <;> simp only [isEff] at hq
      rw [hk] at he
      exact he.1
    · exact effIn_spec he.2 q s h hq
theorem curS_of {S : Nat → Bool} {t0 : T AObj} {n0 : Nat} : ∀ {p : List Rec}, (∀ q s, (q :: s) <:+ p → isEff q.k → S q.i = true) → curS S t0 n0 p = curOf t0 n0 p
  | [], _ => rfl
  | r :: p, h => by
    have ih := curS_of (S := S) (t0 := t0) (n0 := n0) (p := p) fun q s hq => h q s (hq.trans (List.suffix_cons r p))
    show (bif S r.i then curK r.hi (curS S t0 n0 p) r.k else curS S t0 n0 p) = curK r.hi (curOf t0 n0 p) r.k
    rw [ih]
    by_cases he : isEff r.k
    · rw [h r p (List.suffix_refl _) he]; rfl
    · rw [curK_not he]; cases S r.i <;> rfl
theorem curS_skip {S : Nat → Bool} {t0 : T AObj} {n0 : Nat} {s : List Rec} : ∀ {l : List Rec}, s <:+ l → (∀ q s', (q :: s') <:+ l → s <:+ s' → isEff q.k → S q.i = false) → curS S t0 n0 l = curS S t0 n0 s
  | [], h, _ => by rw [List.suffix_nil.1 h]
  | r :: p, h, hf => by
    rcases List.suffix_cons_iff.1 h with rfl | h
    · rfl
    · have ih := curS_skip (S := S) (t0 := t0) (n0 := n0) h fun q s' hq => hf q s' (hq.trans (List.suffix_cons r p))
      show (bif S r.i then curK r.hi (curS S t0 n0 p) r.k else curS S t0 n0 p) = _
      by_cases he : isEff r.k
      · rw [hf r p (List.suffix_refl _) h he]; exact ih
      · rw [curK_not he]; cases S r.i <;> exact ih
theorem curS_congr {S S' : Nat → Bool} {t0 : T AObj} {n0 : Nat} : ∀ {l : List Rec}, (∀ q s, (q :: s) <:+ l → isEff q.k → S q.i = S' q.i) → curS S t0 n0 l = curS S' t0 n0 l
  | [], _ => rfl
  | r :: p, h => by
    have ih := curS_congr (S := S) (S' := S') (t0 := t0) (n0 := n0) (l := p) fun q s hq => h q s (hq.trans (List.suffix_cons r p))
    show (bif S r.i then curK r.hi (curS S t0 n0 p) r.k else curS S t0 n0 p) = (bif S' r.i then curK r.hi (curS S' t0 n0 p) r.k else curS S' t0 n0 p)
    rw [ih]
    by_cases he : isEff r.k
    · rw [h r p (List.suffix_refl _) he]
    · rw [curK_not he]; cases S r.i <;> cases S' r.i <;> rfl

def Env.cur (S : Nat → Bool) : T AObj × Nat × Nat := curS S E.h0.t E.h0.next E.all
def addS (S : Nat → Bool) (i : Nat) : Nat → Bool := fun j => S j || j == i
theorem addS_self (S : Nat → Bool) (i : Nat) : addS S i i = true := by simp [addS]
theorem addS_old {S : Nat → Bool} {i j : Nat} (h : S j = true) : addS S i j = true := by simp [addS, h]
theorem addS_ne {S : Nat → Bool} {i j : Nat} (h : j ≠ i) : addS S i j = S j := by simp [addS, h]

def Env.dst (i : Nat) : Option Nat := (E.ops[i]?).bind (·.dst)

/-! What holds: of the slots, of the numbers; of the heap -/

structure JB (S : Nat → Bool) (a : Act) (w : World) (ν : V) (H : Heap) : Prop where
  step : Step P E.ν0 E.h0 E.w0 ν H w
  next : H.next = E.nN
  fresh : ∀ r p, (r :: p) <:+ E.all → S r.i = false → ∀ x, r.lo ≤ x → x < r.hi → ¬ ν.ok x
  down : ∀ r p, (r :: p) <:+ E.all → S r.i = true → ∀ j, memB j r.st.anc = true → S j = true
  val : ∀ r p, (r :: p) <:+ E.all → S r.i = true → ∀ d, E.dst r.i = some d → r.v.rel ν r.hi (a.tmps.getD d undef)
  old : ∀ t, (∀ r p, (r :: p) <:+ E.all → S r.i = true → E.dst r.i ≠ some t) → a.tmps.getD t undef = E.a0.tmps.getD t undef
  size : a.tmps.size = E.nt
  defers : a.defers = []

structure JC (S : Nat → Bool) (w : World) (ν : V) (H : Heap) : Prop where
  curI : Inv P ν ⟨(E.cur S).2.2, (E.cur S).1⟩ w
  base : ∀ x, ob (E.cur S).1 x ≠ .dead → H.obj x = ob (E.cur S).1 x
  fl : ∀ r p o, (r :: p) <:+ E.all → r.k = .free (some o) → S r.i = true → memB r.i (E.cur S).2.1 = false → o ≠ .dead →
    H.obj r.lo = o ∧ ob (E.cur S).1 r.lo = .dead ∧ ∃ b, w.heap[ν.blk r.lo]? = some b ∧ ObjRel P ν r.hi r.lo o b

variable {E} {S : Nat → Bool} {a : Act} {w : World} {ν : V} {H : Heap} {r : Rec} {p : List Rec}

theorem Env.dst_nodup {i j d : Nat} (hi : E.dst i = some d) (hj : E.dst j = some d) : i = j := by
  refine nodupD_spec E.nodup i j d ?_ ?_
  · unfold Env.dst at hi
    cases h : E.ops[i]? with
    | none => simp [h] at hi
    | some o => simp [h] at hi; simp [h, hi]
  · unfold Env.dst at hj
    cases h : E.ops[j]? with
    | none => simp [h] at hj
    | some o => simp [h] at hj; simp [h, hj]

theorem keepOf_lt {nt : Nat} {ks : List Nat} {d : Nat} {k : Option Path} (h : keepOf nt ks (some d) = some k) : d < nt := by
  simp only [keepOf] at h
  exact Nat.le_of_ble_eq_true (cond_some h).1

theorem JB.upd (j : JB E S a w ν H) (hr : (r :: p) <:+ E.all) (hS : S r.i = false) (hanc : ∀ j, memB j r.st.anc = true → S j = true) {X X' H' : Heap} {ν' : V} {w' : World}
    (x : Step P ν X w ν' X' w') (hX : ∀ i, X.obj i ≠ .dead → H.obj i ≠ .dead) (hn0 : E.h0.next ≤ X.next) (hn : X'.next ≤ E.nN) (hf : ∀ i, X.next ≤ i → i < X'.next → ¬ ν.ok i)
    (hap : ∀ r' p', (r' :: p') <:+ E.all → r'.i ≠ r.i → r'.hi ≤ X.next ∨ X'.next ≤ r'.lo)
    (hH : ∀ i, H'.obj i ≠ .dead → (X'.obj i ≠ .dead ∧ H'.obj i = X'.obj i) ∨ (X.obj i = .dead ∧ H.obj i ≠ .dead ∧ H'.obj i = H.obj i)) (hHn : H'.next = E.nN)
    {o : Oper} (ho : E.ops[r.i]? = some o) {u : Value} (hv : o.dst ≠ none → r.v.rel ν' r.hi u) : JB E (addS S r.i) (a.put o.dst u) w' ν' H' where
  step := j.step.merge x hX hn0 (by rw [j.next]; exact hn) hf hH (by rw [j.next]; exact hHn)
  next := hHn
  fresh := fun r' p' hr' hS' y h1 h2 q => by
    have hne : r'.i ≠ r.i := fun e => by rw [e, addS_self] at hS'; cases hS'
    rw [addS_ne hne] at hS'
    have := j.fresh r' p' hr' hS' y h1 h2
    rcases hap r' p' hr' hne with q' | q'
    · exact this (x.fresh y (by omega) q)
    · exact this ((x.above y (by omega)).1 q)
  down := fun r' p' hr' hS' k hk => by
    by_cases hne : r'.i = r.i
    · obtain ⟨rfl, rfl⟩ := E.uniq hr' hr hne
      exact addS_old (hanc k hk)
    · rw [addS_ne hne] at hS'
      exact addS_old (j.down r' p' hr' hS' k hk)
  val := fun r' p' hr' hS' d hd => by
    have hdo : E.dst r.i = o.dst := by simp [Env.dst, ho]
    by_cases hne : r'.i = r.i
    · obtain ⟨rfl, rfl⟩ := E.uniq hr' hr hne
      rw [hdo] at hd
      obtain ⟨o', ho', _, _, _, hk, _⟩ := E.link _ _ hr
      have : o' = o := by rw [ho] at ho'; exact (Option.some.inj ho').symm
      subst this
      rw [hd] at hk ⊢
      rw [put_getD a d d u (by rw [j.size]; exact keepOf_lt hk), if_pos rfl]
      exact hv (by simp [hd])
    · rw [addS_ne hne] at hS'
      have h1 := AV.rel_mono (x.keepsA hf r'.hi) (Nat.le_refl _) _ _ (j.val r' p' hr' hS' d hd)
      cases hod : o.dst with
      | none => exact h1
      | some d' =>
        have hne' : d' ≠ d := fun e => hne (Env.dst_nodup hd (by rw [hdo, hod, e]))
        have : (a.put (some d') u).tmps.getD d undef = a.tmps.getD d undef := by
          simp only [Act.put, Array.getD_eq_getD_getElem?, Array.getElem?_setIfInBounds, if_neg hne']
        rw [this]; exact h1
  old := fun t ht => by
    have h1 := j.old t fun r' p' hr' hS' => ht r' p' hr' (addS_old hS')
    have h2 : o.dst ≠ some t := by
      have := ht r p hr (addS_self _ _)
      simpa [Env.dst, ho] using this
    cases hod : o.dst with
    | none => exact h1
    | some d' =>
      have hne' : d' ≠ t := fun e => h2 (by rw [hod, e])
      have : (a.put (some d') u).tmps.getD t undef = a.tmps.getD t undef := by
        simp only [Act.put, Array.getD_eq_getD_getElem?, Array.getElem?_setIfInBounds, if_neg hne']
      rw [this]; exact h1
  size := by
    cases o.dst with
    | none => exact j.size
    | some d => simp [Act.put, j.size]
  defers := by
    cases o.dst with
    | none => exact j.defers
    | some d => exact j.defers

theorem nth_get (l : List AV) (i : Nat) (v : AV) (h : l[i]? = some v) : nth l i = v := by
  induction l generalizing i with
  | nil => simp at h
  | cons x l ih =>
    cases i with
    | zero => simp at h; subst h; rfl
    | succ i => rw [nth_succ]; exact ih i (by simpa using h)

/-- The operands. -/
theorem JB.R (j : JB E S a w ν H) (hr : (r :: p) <:+ E.all) (hS : S r.i = false) (hanc : ∀ j, memB j r.st.anc = true → S j = true) (x : Operand) :
    (evO r.loc E.tm (cmpOD E.ks (dsOf E.ops r.i) r.st.anc (E.inf.drop (r.i + 1)) x)).rel ν r.lo (a.eval x) := by
  have g := E.good r p hr
  have hlt := E.lt hr
  cases x with
  | const v => exact rel_ofValue _ v
  | global g => trivial
  | func f => exact ⟨#[], #[], rfl, rfl, rfl⟩
  | tmp t =>
    show (evO r.loc E.tm (lOfD E.ks t (dsOf E.ops r.i).length r.st.anc (latOK (dsOf E.ops r.i).length t (E.inf.drop (r.i + 1))) (idxOf t (dsOf E.ops r.i)))).rel ν r.lo (a.tmps.getD t undef)
    rw [dsOf_len _ _ (by omega)]
    cases hx : idxOf t (dsOf E.ops r.i) with
    | some q =>
      show (evO r.loc E.tm (bif memB (Nat.sub (Nat.sub r.i 1) q) r.st.anc then .l q else .c .any)).rel ν r.lo _
      cases hm : memB (Nat.sub (Nat.sub r.i 1) q) r.st.anc with
      | false => trivial
      | true =>
        have hm' : memB (r.i - 1 - q) r.st.anc = true := hm
        have hg := idxOf_get hx
        have hq : q < r.i := by
          have := (List.getElem?_eq_some_iff.1 hg).1
          rw [dsOf_len _ _ (by omega)] at this
          exact this
        obtain ⟨r', p', hr', hi'⟩ := E.at_ (r.i - 1 - q) (by omega)
        have hb := E.before hr hr' (by omega)
        have hd : E.dst r'.i = some t := by
          unfold dsOf at hg
          rw [List.getElem?_reverse (by simp; omega)] at hg
          simp only [List.length_map, List.length_take, List.getElem?_map] at hg
          rw [show min r.i E.ops.length - 1 - q = r'.i by omega, List.getElem?_take, if_pos (by omega)] at hg
          unfold Env.dst
          cases ho : E.ops[r'.i]? with
          | none => simp [ho] at hg
          | some o => simp [ho] at hg; simp [hg]
        have hv := j.val r' p' hr' (hanc _ (by rw [hi']; exact hm')) t hd
        have hn : nth r.loc q = r'.v := by
          refine nth_get _ _ _ ?_
          rw [g.loc, List.getElem?_map]
          obtain ⟨A, hA⟩ := hb
          have h1 := g.i
          have h2 := (E.good r' p' hr').i
          have hAl : A.length = q := by have := congrArg List.length hA; simp at this; omega
          rw [← hA, List.getElem?_append_right (by omega), hAl]
          simp
        show (nth r.loc q).rel ν r.lo _
        rw [hn]
        exact AV.rel_mono (V.agree.refl _ _) (E.hi_lo hr hr' (by omega)) _ _ hv
    | none =>
      show (evO r.loc E.tm (bif latOK r.i t (E.inf.drop (r.i + 1)) then gOf (posOf t E.ks) else .c .any)).rel ν r.lo _
      cases hl : latOK r.i t (E.inf.drop (r.i + 1)) with
      | false => trivial
      | true =>
        show (evO r.loc E.tm (gOf (posOf t E.ks))).rel ν r.lo _
        cases hp : posOf t E.ks with
        | none => trivial
        | some k =>
          have ht := E.hT t k hp
          rw [j.old t ?_]
          · exact AV.rel_mono j.step.ext (E.nx_lo hr) _ _ ht
          · intro r' p' hr' hS' hd
            have hne : r'.i ≠ r.i := fun e => by rw [e, hS] at hS'; cases hS'
            have hlt' := E.lt hr'
            obtain ⟨o', ho', hinf', _⟩ := E.link r' p' hr'
            have hod : o'.dst = some t := by simpa [Env.dst, ho'] using hd
            rcases Nat.lt_or_ge r'.i r.i with q | q
            · have := idxOf_none hx (r.i - 1 - r'.i)
              apply this
              unfold dsOf
              rw [List.getElem?_reverse (by simp; omega)]
              simp only [List.length_map, List.length_take, List.getElem?_map]
              rw [show min r.i E.ops.length - 1 - (r.i - 1 - r'.i) = r'.i by omega, List.getElem?_take, if_pos q, ho']
              simp [hod]
            · have hm := latOK_spec hl (r'.i - (r.i + 1)) r'.st.anc (by
                rw [List.getElem?_drop, show r.i + 1 + (r'.i - (r.i + 1)) = r'.i by omega, hinf', hod])
              have := j.down r' p' hr' hS' _ hm
              rw [hS] at this
              cases this

theorem wantV_rel {ops : List Oper} {o : Oper} {g : Nat} {want : Bool} (hg : o.guard = some (g, want)) {d : Nat} (hd : (ops[g]?).bind (·.dst) = some d) {v : AV} {n : Nat} (hr : v.rel ν n (a.tmps.getD d undef)) {b : Bool} (hw : wantV want v = some b) :
    Region.wanted o (yielded ops.toArray a.tmps) = b := by
  have hy : yielded ops.toArray a.tmps g = (match a.tmps[d]? with | some (.bool b) => some b | _ => none) := by
    unfold yielded
    have : (ops.toArray[g]?).bind (·.dst) = some d := by rw [List.getElem?_toArray]; exact hd
    rw [this]
    rfl
  simp only [Region.wanted, hg]
  rw [hy]
  unfold wantV at hw
  split at hw
  · rename_i b'
    simp only [Option.some.injEq] at hw
    subst hw
    have hr' : a.tmps.getD d undef = .bool b' := hr
    have hs : a.tmps[d]? = some (.bool b') := by
      rw [Array.getD_eq_getD_getElem?] at hr'
      cases hq : a.tmps[d]? with
      | none => rw [hq] at hr'; simp [undef] at hr'
      | some x => rw [hq] at hr'; simp at hr'; rw [hr']
    rw [hs]
    cases b' <;> cases want <;> rfl
  · simp only [Option.some.injEq] at hw
    subst hw
    obtain ⟨vs, hr', hvs⟩ := hr
    cases hq : a.tmps[d]? with
    | none => rfl
    | some x =>
      rw [Array.getD_eq_getD_getElem?, hq] at hr'
      simp at hr'
      subst hr'
      rfl
  · simp at hw

theorem JB.wanted (j : JB E S a w ν H) (hr : (r :: p) <:+ E.all) (hS : S r.i = false) (hanc : ∀ j, memB j r.st.anc = true → S j = true) {o : Oper} (ho : E.ops[r.i]? = some o) {b : Bool} (hw : wantM r.loc E.tm r.st.guard = some b) :
    Region.wanted o (yielded E.ops.toArray a.tmps) = b := by
  have hlt := E.lt hr
  obtain ⟨o', ho', _, _, hg, _⟩ := E.link r p hr
  have : o' = o := by rw [ho] at ho'; exact (Option.some.inj ho').symm
  subst this
  cases hgd : o'.guard with
  | none =>
    rw [hgd] at hg
    simp only [guardD, Option.some.injEq] at hg
    rw [← hg] at hw
    simp only [wantM, Option.some.injEq] at hw
    subst hw
    simp [Region.wanted, hgd]
  | some q =>
    rw [hgd] at hg
    simp only [guardD] at hg
    cases hd : dstOf (dsOf E.ops r.i) q.1 with
    | none => simp [hd] at hg
    | some d =>
      simp only [hd, Option.some.injEq] at hg
      rw [← hg] at hw
      simp only [wantM] at hw
      have hq : q.1 < (E.ops.take r.i).length := by have := dstOf_lt hd; rw [dsOf_len _ _ (by omega)] at this; simp; omega
      unfold dsOf at hd
      rw [dstOf_rev _ _ hq] at hd
      have hq' : q.1 < r.i := by simp at hq; omega
      rw [List.getElem?_take, if_pos hq'] at hd
      exact wantV_rel (g := q.1) (want := q.2) hgd hd (j.R hr hS hanc (.tmp d)) hw

end Go.Ev
