/-
  THE EVALUATOR IS RIGHT, twelfth text: regions in the order of the text, code, calls.
-/
import Derived.Test.YtdcondepcjijnaaGreatEvM
namespace Go.Ev
open Go

noncomputable def getT (tm : Tm) (p : Path) : AV := evO [] tm (.g p)
theorem getT_put (tm : Tm) (p q : Path) (v : AV) : getT (tm.put p v) q = if p = q then v else getT tm q := by
  show (Option.rec (.tuple []) (fun v => v) ((tm.put p v).get q) : AV) = _
  rw [T.get_put]
  by_cases e : p = q
  · simp [e]
  · simp only [if_neg e]; rfl

variable {P : Program} {ν : V} {h : Heap} {w : World}

/-- The slots that are kept. -/
def RelT (ks : List Nat) (ν : V) (n : Nat) (tm : Tm) (tmps : Array Value) : Prop := ∀ t i, posOf t ks = some i → (getT tm (pathN i)).rel ν n (tmps.getD t undef)
/-- The slots that this region has written. -/
def RelD (ds : List (Option Nat)) (loc : List AV) (ν : V) (n : Nat) (tmps : Array Value) : Prop := ∀ t i, idxOf t ds = some i → (nth loc i).rel ν n (tmps.getD t undef)

theorem posOf_get : ∀ {ks : List Nat} {t i : Nat}, posOf t ks = some i → ks[i]? = some t
  | [], _, _, h => by simp [posOf] at h
  | d :: r, t, i, h => by
    simp only [posOf] at h
    cases hb : Nat.beq d t with
    | true => rw [hb] at h; simp at h; subst h; have := Nat.eq_of_beq_eq_true hb; simp [this]
    | false =>
      rw [hb] at h
      simp only [cond_false] at h
      cases hr : posOf t r with
      | none => simp [hr, sucO] at h
      | some j => simp only [hr, sucO, Option.some.injEq] at h; subst h; simpa using posOf_get hr

theorem RelT.mono {ν' : V} {ks : List Nat} {n n' : Nat} {tm : Tm} {tmps : Array Value} (r : RelT ks ν n tm tmps) (h : ν.agree ν' n) (hn : n ≤ n') : RelT ks ν' n' tm tmps := fun t i e => AV.rel_mono h hn _ _ (r t i e)
theorem RelD.mono {ν' : V} {ds : List (Option Nat)} {loc : List AV} {n n' : Nat} {tmps : Array Value} (r : RelD ds loc ν n tmps) (h : ν.agree ν' n) (hn : n ≤ n') : RelD ds loc ν' n' tmps := fun t i e => AV.rel_mono h hn _ _ (r t i e)

theorem cmpO_rel {ks : List Nat} {ds : List (Option Nat)} {loc : List AV} {tm : Tm} {n : Nat} {a : Act} (hT : RelT ks ν n tm a.tmps) (hD : RelD ds loc ν n a.tmps) (x : Operand) : (evO loc tm (cmpO ks ds x)).rel ν n (a.eval x) := by
  cases x with
  | tmp t =>
    show (evO loc tm (lOf ks t (idxOf t ds))).rel ν n (a.tmps.getD t undef)
    cases hi : idxOf t ds with
    | some i => exact hD t i hi
    | none =>
      show (evO loc tm (gOf (posOf t ks))).rel ν n _
      cases hp : posOf t ks with
      | some i => exact hT t i hp
      | none => trivial
  | const v => exact rel_ofValue n v
  | global g => trivial
  | func f => exact ⟨#[], #[], rfl, rfl, rfl⟩

theorem put_getD (a : Act) (d t : Nat) (v : Value) (hd : d < a.tmps.size) : (a.put (some d) v).tmps.getD t undef = if d = t then v else a.tmps.getD t undef := by
  simp only [Act.put, Array.getD_eq_getD_getElem?, Array.getElem?_setIfInBounds]
  by_cases e : d = t
  · subst e; simp [hd]
  · simp [e]

theorem idxOf_cons (t d : Nat) (ds : List (Option Nat)) (i : Nat) (h : idxOf t (some d :: ds) = some i) : (d = t ∧ i = 0) ∨ (d ≠ t ∧ ∃ j, idxOf t ds = some j ∧ i = j + 1) := by
  simp only [idxOf] at h
  cases hb : Nat.beq d t with
  | true => rw [hb] at h; simp at h; exact .inl ⟨Nat.eq_of_beq_eq_true hb, h.symm⟩
  | false =>
    rw [hb] at h
    simp only [cond_false] at h
    cases hr : idxOf t ds with
    | none => simp [hr, sucO] at h
    | some j => simp only [hr, sucO, Option.some.injEq] at h; exact .inr ⟨Nat.ne_of_beq_eq_false hb, j, rfl, h.symm⟩
theorem idxOf_none_cons (t : Nat) (ds : List (Option Nat)) (i : Nat) (h : idxOf t (none :: ds) = some i) : ∃ j, idxOf t ds = some j ∧ i = j + 1 := by
  simp only [idxOf] at h
  cases hr : idxOf t ds with
  | none => simp [hr, sucO] at h
  | some j => simp only [hr, sucO, Option.some.injEq] at h; exact ⟨j, rfl, h.symm⟩

theorem nth_zero (v : AV) (l : List AV) : nth (v :: l) 0 = v := rfl
theorem nth_succ (v : AV) (l : List AV) (i : Nat) : nth (v :: l) (i + 1) = nth l i := rfl

/-- One operation's value, written. -/
theorem put_rel {nt : Nat} {ks : List Nat} {ds : List (Option Nat)} {loc : List AV} {tm : Tm} {n : Nat} {a : Act} {v : AV} {u : Value} {dst : Option Nat} {keep : Option Path}
    (hT : RelT ks ν n tm a.tmps) (hD : RelD ds loc ν n a.tmps) (hs : a.tmps.size = nt) (hk : keepOf nt ks dst = some keep) (r : dst ≠ none → v.rel ν n u) :
    RelT ks ν n (putK tm v keep) (a.put dst u).tmps ∧ RelD (dst :: ds) (v :: loc) ν n (a.put dst u).tmps ∧ (a.put dst u).tmps.size = nt ∧ (a.put dst u).defers = a.defers := by
  cases dst with
  | none =>
    simp only [keepOf, Option.some.injEq] at hk
    subst hk
    refine ⟨hT, ?_, hs, rfl⟩
    intro t i hi
    obtain ⟨j, hj, rfl⟩ := idxOf_none_cons t ds i hi
    exact hD t j hj
  | some d =>
    simp only [keepOf] at hk
    obtain ⟨hb, hk⟩ := cond_some hk
    have hd : d < a.tmps.size := by rw [hs]; exact Nat.le_of_ble_eq_true hb
    have r := r (by simp)
    refine ⟨?_, ?_, by simp [Act.put, hs], rfl⟩
    · intro t i hi
      rw [put_getD a d t u hd]
      by_cases e : d = t
      · subst e
        rw [hi] at hk
        subst hk
        show (getT (tm.put (pathN i) v) (pathN i)).rel ν n _
        rw [getT_put]
        simpa using r
      · rw [if_neg e]
        cases hp : posOf d ks with
        | none => rw [hp] at hk; subst hk; exact hT t i hi
        | some j =>
          rw [hp] at hk
          subst hk
          show (getT (tm.put (pathN j) v) (pathN i)).rel ν n _
          have hne : pathN j ≠ pathN i := by
            intro q
            have := pathN_inj q
            subst this
            have h1 := posOf_get hp
            have h2 := posOf_get hi
            rw [h1] at h2
            exact e (by simpa using h2)
          rw [getT_put, if_neg hne]
          exact hT t i hi
    · intro t i hi
      rw [put_getD a d t u hd]
      rcases idxOf_cons t d ds i hi with ⟨rfl, rfl⟩ | ⟨e, j, hj, rfl⟩
      · rw [if_pos rfl]; exact r
      · rw [if_neg e]; exact hD t j hj

/-! Guards -/

theorem dstOf_get : ∀ (ds : List (Option Nat)) (j : Nat), j < ds.length → dstOf ds j = (ds[ds.length - 1 - j]?).join
  | [], j, hj => by simp at hj
  | d :: r, j, hj => by
    simp only [dstOf]
    cases hb : Nat.beq r.length j with
    | true =>
      have := Nat.eq_of_beq_eq_true hb
      subst this
      simp
    | false =>
      have hne := Nat.ne_of_beq_eq_false hb
      have hj' : j < r.length := by simp at hj; omega
      simp only [cond_false]
      rw [dstOf_get r j hj', show (d :: r).length - 1 - j = (r.length - 1 - j) + 1 by simp; omega, List.getElem?_cons_succ]

theorem dstOf_rev (pre : List Oper) (j : Nat) (hj : j < pre.length) : dstOf (pre.map (·.dst)).reverse j = (pre[j]?).bind (·.dst) := by
  rw [dstOf_get _ j (by simpa using hj), List.getElem?_reverse (by simp; omega)]
  simp only [List.length_reverse, List.length_map, List.getElem?_map]
  rw [show pre.length - 1 - (pre.length - 1 - j) = j by omega]
  cases pre[j]? <;> rfl

theorem dstOf_lt : ∀ {ds : List (Option Nat)} {j d : Nat}, dstOf ds j = some d → j < ds.length
  | [], _, _, h => by simp [dstOf] at h
  | x :: r, j, d, h => by
    simp only [dstOf] at h
    cases hb : Nat.beq r.length j with
    | true => have := Nat.eq_of_beq_eq_true hb; simp; omega
    | false => rw [hb] at h; have := dstOf_lt (show dstOf r j = some d from h); simp; omega

theorem wanted_rel {ops : List Oper} {pre rest : List Oper} {o : Oper} (hops : ops = pre ++ o :: rest) {ks : List Nat} {loc : List AV} {tm : Tm} {n : Nat} {a : Act} {g : Option (MO × Bool)}
    (hT : RelT ks ν n tm a.tmps) (hD : RelD (pre.map (·.dst)).reverse loc ν n a.tmps) (hg : guardOf ks (pre.map (·.dst)).reverse o.guard = some g) {b : Bool} (hw : wantM loc tm g = some b) :
    Region.wanted o (yielded ops.toArray a.tmps) = b := by
  cases hgd : o.guard with
  | none =>
    rw [hgd] at hg
    simp only [guardOf, Option.some.injEq] at hg
    subst hg
    simp only [wantM, Option.some.injEq] at hw
    subst hw
    simp [Region.wanted, hgd]
  | some p =>
    rw [hgd] at hg
    simp only [guardOf] at hg
    cases hd : dstOf (pre.map (·.dst)).reverse p.1 with
    | none => simp [hd] at hg
    | some d =>
      simp only [hd, Option.some.injEq] at hg
      subst hg
      simp only [wantM] at hw
      have hr := cmpO_rel (a := a) hT hD (.tmp d)
      have hlt : p.1 < pre.length := by have := dstOf_lt hd; simpa using this
      rw [dstOf_rev pre p.1 hlt] at hd
      have hy : yielded ops.toArray a.tmps p.1 = (match a.tmps[d]? with | some (.bool b) => some b | _ => none) := by
        unfold yielded
        have : (ops.toArray[p.1]?).bind (·.dst) = some d := by
          rw [List.getElem?_toArray, hops, List.getElem?_append_left hlt]; exact hd
        rw [this]
        rfl
      obtain ⟨j, want⟩ := p
      simp only [Region.wanted, hgd]
      simp only at hy hw
      rw [hy]
      have hgetD : a.eval (.tmp d) = a.tmps.getD d undef := rfl
      rw [hgetD] at hr
      generalize hv : evO loc tm (cmpO ks (pre.map (·.dst)).reverse (.tmp d)) = v at hr hw
      unfold wantV at hw
      split at hw
      · rename_i b'
        simp only [Option.some.injEq] at hw
        subst hw
        have hr' : a.tmps.getD d undef = .bool b' := hr
        have hs : a.tmps[d]? = some (.bool b') := by
          rw [Array.getD_eq_getD_getElem?] at hr'
          cases hq : a.tmps[d]? with
          | none => rw [hq] at hr'; simp [undef] at hr'
          | some x => rw [hq] at hr'; simp at hr'; rw [hr']
        rw [hs]
        cases b' <;> cases want <;> rfl
      · simp only [Option.some.injEq] at hw
        subst hw
        obtain ⟨vs, hr', hvs⟩ := hr
        cases hq : a.tmps[d]? with
        | none => rfl
        | some x =>
          rw [Array.getD_eq_getD_getElem?, hq] at hr'
          simp at hr'
          subst hr'
          rfl
      · simp at hw

/-! A call, as the region meets it -/

def CallOK (P : Program) (ν : V) (h : Heap) (w : World) (v : AV) (h' : Heap) : Result Next → Prop
  | .ok (.enter g vs) w1 => Calls P g vs w1 fun e w' => ∃ u ν', e = .returned u ∧ Step P ν h w ν' h' w' ∧ v.rel ν' h'.next u
  | .ok (.value u) w' => ∃ ν', Step P ν h w ν' h' w' ∧ v.rel ν' h'.next u
  | _ => False

def CallSound (P : Program) (call : CallE) : Prop := ∀ f args h v h', call f args h = .ok v h' → ∀ ν w vs, Inv P ν h w → relL ν h.next args vs → CallOK P ν h w v h' ((callFunc f vs.toArray).run P w)

/-! A region in the order of its text -/

theorem ops_sound {call : CallE} (hc : CallSound P call) {nt : Nat} {ks : List Nat} {ops : List Oper} {Q : Exit → Act → World → Prop} {tmE : Tm} {hE : Heap} : ∀ (l pre : List Oper) (ms : List MStep), ops = pre ++ l → cmpOps P nt ks l (pre.map (·.dst)).reverse = some ms →
    ∀ (loc : List AV) (tm : Tm) (h : Heap), opsM call ms loc tm h = .ok tmE hE →
    ∀ (ν : V) (w : World) (a : Act), Inv P ν h w → RelT ks ν h.next tm a.tmps → RelD (pre.map (·.dst)).reverse loc ν h.next a.tmps → a.tmps.size = nt → a.defers = [] →
    (∀ ν' w' a', Step P ν h w ν' hE w' → RelT ks ν' hE.next tmE a'.tmps → a'.tmps.size = nt → a'.defers = [] → Q .normal a' w') → wpList P ops.toArray Q l a w
  | [], pre, ms, hops, hm, loc, tm, h, ho, ν, w, a, I, hT, hD, hs, hd, hQ => by
    simp only [cmpOps, Option.some.injEq] at hm
    subst hm
    have ho' : RT.ok tm h = .ok tmE hE := ho
    injection ho' with e1 e2
    subst e1; subst e2
    exact hQ ν w a (Step.refl I) hT hs hd
  | o :: l, pre, ms, hops, hm, loc, tm, h, ho, ν, w, a, I, hT, hD, hs, hd, hQ => by
    simp only [cmpOps] at hm
    split at hm
    · rename_i f g k hf hg hk
      cases hr : cmpOps P nt ks l (o.dst :: (pre.map (·.dst)).reverse) with
      | none => simp [hr, consS] at hm
      | some ms' =>
        simp only [hr, consS, Option.some.injEq] at hm
        subst hm
        have hr' : cmpOps P nt ks l ((pre ++ [o]).map (·.dst)).reverse = some ms' := by simpa using hr
        have hops' : ops = (pre ++ [o]) ++ l := by simpa using hops
        have hrev : ((pre ++ [o]).map (·.dst)).reverse = o.dst :: (pre.map (·.dst)).reverse := by simp
        have ho' : stepM call ⟨f, g, k⟩ (opsM call ms') loc tm h (wantM loc tm g) = .ok tmE hE := ho
        -- what goes on behind this operation
        have next : ∀ {v : AV} {h1 : Heap}, opsM call ms' (v :: loc) (putK tm v k) h1 = .ok tmE hE → ∀ {ν1 : V} {w1 : World} {u : Value}, Step P ν h w ν1 h1 w1 → (o.dst ≠ none → v.rel ν1 h1.next u) → wpList P ops.toArray Q l (a.put o.dst u) w1 := by
          intro v h1 hgo ν1 w1 u st rv
          have hT1 := hT.mono st.ext st.next
          have hD1 := hD.mono st.ext st.next
          obtain ⟨g1, g2, g3, g4⟩ := put_rel (u := u) hT1 hD1 hs hk rv
          refine ops_sound hc l (pre ++ [o]) ms' hops' hr' _ _ h1 hgo ν1 w1 _ st.inv g1 ?_ g3 (g4.trans hd) (fun ν' w' a' st' r1 r2 r3 => hQ ν' w' a' (st.trans st') r1 r2 r3)
          rw [hrev]; exact g2
        cases hw : wantM loc tm g with
        | none => rw [hw] at ho'; simp [stepM] at ho'
        | some b =>
          rw [hw] at ho'
          have hwant := wanted_rel hops hT hD hg hw
          unfold wpList
          rw [hwant]
          cases b with
          | false =>
            simp only [stepM] at ho'
            rw [if_neg (by simp)]
            exact next ho' (Step.refl I) fun _ => ⟨#[], rfl, rfl⟩
          | true =>
            simp only [stepM] at ho'
            rw [if_pos rfl]
            refine .inl ?_
            have hR := cmpO_rel (a := a) hT hD
            cases hout : f (evO loc tm) h with
            | none => rw [hout] at ho'; simp [outM] at ho'
            | some out =>
              rw [hout] at ho'
              have res := cmpOp_sound hf ν h w (evO loc tm) a.eval o rfl I hR out hout
              unfold Oper.wp
              cases out with
              | val v h1 =>
                obtain ⟨u, w1, ν1, hrun, st, rv⟩ := res
                rw [hrun]
                simp only [outM] at ho'
                exact next ho' st fun _ => rv
              | skip h1 =>
                obtain ⟨w1, ν1, hrun, st⟩ := res
                rw [hrun]
                simp only [outM] at ho'
                exact next ho' st fun _ => ⟨#[], rfl, rfl⟩
              | enter fn args h1 =>
                obtain ⟨rfl, vs, hrun, ra⟩ := res
                rw [hrun]
                simp only [outM] at ho'
                cases hcall : call fn args h1 with
                | no l => rw [hcall] at ho'; simp [goM] at ho'
                | ok v h2 =>
                  rw [hcall] at ho'
                  simp only [goM] at ho'
                  have ok := hc fn args h1 v h2 hcall ν w vs I ra
                  generalize (callFunc fn vs.toArray).run P w = r at ok
                  unfold CallOK at ok
                  split at ok
                  · refine Calls.mono ok ?_
                    rintro e w' ⟨u, ν', rfl, st, rv⟩
                    exact next ho' st fun _ => rv
                  · obtain ⟨ν', st, rv⟩ := ok
                    exact next ho' st fun _ => rv
                  · exact ok.elim
    · simp at hm

end Go.Ev
