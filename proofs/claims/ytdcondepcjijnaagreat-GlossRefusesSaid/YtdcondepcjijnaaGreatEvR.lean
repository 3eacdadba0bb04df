/-
  THE EVALUATOR IS RIGHT: regions that draw their order, third text: what the run's record bears; what was made ready.
-/
import Derived.Test.YtdcondepcjijnaaGreatEvQ
namespace Go.Ev
open Go

variable {P : Program}

def nxOf (n0 : Nat) : List Rec → Nat
  | [] => n0
  | r :: _ => r.hi
def curK (hi : Nat) (x : T AObj × Nat × Nat) : DK → T AObj × Nat × Nat
  | .eff t ab => (t, ab, hi)
  | _ => x
/-- The writers' heap, what floats they have taken in, and the number behind their last one. -/
def curOf (t0 : T AObj) (n0 : Nat) : List Rec → T AObj × Nat × Nat
  | [] => (t0, 0, n0)
  | r :: p => curK r.hi (curOf t0 n0 p) r.k

def OutIs (call : CallE) (v : AV) (h : Heap) : Out → Prop
  | .val v' h' => v' = v ∧ h' = h
  | .skip h' => v = .tuple [] ∧ h' = h
  | .enter f args h' => call f args h' = .ok v h

def GoodK (call : CallE) (tm : Tm) (t0 : T AObj) (n0 : Nat) (r : Rec) (p : List Rec) : DK → Prop
  | .skip => wantM r.loc tm r.st.guard = some false ∧ r.v = .tuple [] ∧ r.hi = r.lo
  | .free o => wantM r.loc tm r.st.guard = some true ∧ ∃ Y, r.st.op (evO r.loc tm) ⟨r.lo, .e⟩ = some (.val r.v Y) ∧ o = freeO r.lo Y ∧ r.hi = Y.next
  | .read => wantM r.loc tm r.st.guard = some true ∧ (r.st.cls = 1 ∨ r.st.cls = 3) ∧ r.hi = r.lo ∧ ltV r.lo r.v = true
  | .eff t ab => wantM r.loc tm r.st.guard = some true ∧ effIn r.st.anc p = true ∧ ab = Nat.lor r.st.anc (curOf t0 n0 p).2.1 ∧
      ∃ out, r.st.op (evO r.loc tm) ⟨r.lo, addP (selA r.st.anc (curOf t0 n0 p).2.1) (curOf t0 n0 p).1 p⟩ = some out ∧ OutIs call r.v ⟨r.hi, t⟩ out

structure GoodR (call : CallE) (tm : Tm) (t0 : T AObj) (n0 : Nat) (r : Rec) (p : List Rec) : Prop where
  i : r.i = p.length
  loc : r.loc = p.map (·.v)
  lo : r.lo = nxOf n0 p
  le : r.lo ≤ r.hi
  k : GoodK call tm t0 n0 r p r.k

theorem suffix_cons_cases {r q : Rec} {p s : List Rec} (h : (r :: p) <:+ (q :: s)) : (r = q ∧ p = s) ∨ (r :: p) <:+ s := by
  rcases List.suffix_cons_iff.1 h with e | e
  · injection e with e1 e2; exact .inl ⟨e1, e2⟩
  · exact .inr e

theorem dops_good {call : CallE} {tm : Tm} {t0 : T AObj} {n0 : Nat} {tmE : Tm} {hE : Heap} : ∀ (l : List DStep) (rs : List Rec) (loc : List AV) (i n : Nat) (t : T AObj) (ab : Nat),
    dopsM call tm t0 l rs loc i n t ab = .ok tmE hE → (∀ r p, (r :: p) <:+ rs → GoodR call tm t0 n0 r p) → i = rs.length → loc = rs.map (·.v) → n = nxOf n0 rs → t = (curOf t0 n0 rs).1 → ab = (curOf t0 n0 rs).2.1 →
    ∃ all, (∀ r p, (r :: p) <:+ all → GoodR call tm t0 n0 r p) ∧ (all.map (·.st)).reverse = (rs.map (·.st)).reverse ++ l ∧ chkAll tm (nxOf n0 all) t0 all all = true ∧ tmE = tmOf tm all ∧
      hE = ⟨nxOf n0 all, addP (selE (curOf t0 n0 all).2.1) (curOf t0 n0 all).1 all⟩
  | [], rs, loc, i, n, t, ab, h, hg, hi, hl, hn, ht, hab => by
    have h' : endD tm t0 rs loc i n t ab = .ok tmE hE := h
    simp only [endD] at h'
    cases hc : chkAll tm n t0 rs rs with
    | false => rw [hc] at h'; simp at h'
    | true =>
      rw [hc] at h'
      simp only [cond_true] at h'
      injection h' with e1 e2
      exact ⟨rs, hg, by simp, by rw [← hn]; exact hc, e1.symm, by rw [← e2, hn, ht, hab]⟩
  | st :: l, rs, loc, i, n, t, ab, h, hg, hi, hl, hn, ht, hab => by
    have h' : dstepM call (dopsM call tm t0 l) st tm rs loc i n t ab (wantM loc tm st.guard) = .ok tmE hE := h
    -- with one record more
    have next : ∀ (r : Rec) (t' : T AObj) (ab' : Nat), GoodR call tm t0 n0 r rs → r.st = st → dopsM call tm t0 l (r :: rs) (r.v :: loc) (Nat.succ i) r.hi t' ab' = .ok tmE hE → t' = (curOf t0 n0 (r :: rs)).1 → ab' = (curOf t0 n0 (r :: rs)).2.1 →
        ∃ all, (∀ r p, (r :: p) <:+ all → GoodR call tm t0 n0 r p) ∧ (all.map (·.st)).reverse = (rs.map (·.st)).reverse ++ st :: l ∧ chkAll tm (nxOf n0 all) t0 all all = true ∧ tmE = tmOf tm all ∧
          hE = ⟨nxOf n0 all, addP (selE (curOf t0 n0 all).2.1) (curOf t0 n0 all).1 all⟩ := by
      intro r t' ab' hr hst hd ht' hab'
      obtain ⟨all, g, s, rest⟩ := dops_good l (r :: rs) _ _ _ t' ab' hd (fun q p hq => by
        rcases suffix_cons_cases hq with ⟨rfl, rfl⟩ | hq
        · exact hr
        · exact hg q p hq) (by simp [hi]) (by simp [hl]) rfl ht' hab'
      exact ⟨all, g, by rw [s]; simp [hst], rest⟩
    cases hw : wantM loc tm st.guard with
    | none => rw [hw] at h'; simp [dstepM] at h'
    | some b =>
      rw [hw] at h'
      cases b with
      | false =>
        simp only [dstepM] at h'
        exact next ⟨st, loc, i, n, n, .tuple [], .skip⟩ t ab ⟨hi, hl, hn, Nat.le_refl _, hw, rfl, rfl⟩ rfl h' ht hab
      | true =>
        simp only [dstepM] at h'
        unfold clsM at h'
        split at h'
        · unfold freeM at h'
          split at h'
          · rename_i v Y hv
            obtain ⟨hle, h'⟩ : Nat.ble n Y.next = true ∧ _ := by
              cases hb : Nat.ble n Y.next with
              | false => rw [hb] at h'; simp at h'
              | true => rw [hb] at h'; exact ⟨rfl, h'⟩
            exact next ⟨st, loc, i, n, Y.next, v, .free (freeO n Y)⟩ t ab ⟨hi, hl, hn, Nat.le_of_ble_eq_true hle, hw, Y, hv, rfl, rfl⟩ rfl h' ht hab
          · simp at h'
        · rename_i hc
          unfold readM at h'
          split at h'
          · rename_i v Y hv
            cases hb : ltV n v with
            | false => rw [hb] at h'; simp at h'
            | true =>
              rw [hb] at h'
              exact next ⟨st, loc, i, n, n, v, .read⟩ t ab ⟨hi, hl, hn, Nat.le_refl _, hw, .inl hc, rfl, hb⟩ rfl h' ht hab
          · simp at h'
        · rename_i hc
          unfold readM at h'
          split at h'
          · rename_i v Y hv
            cases hb : ltV n v with
            | false => rw [hb] at h'; simp at h'
            | true =>
              rw [hb] at h'
              exact next ⟨st, loc, i, n, n, v, .read⟩ t ab ⟨hi, hl, hn, Nat.le_refl _, hw, .inr hc, rfl, hb⟩ rfl h' ht hab
          · simp at h'
        · obtain ⟨hef, h'⟩ : effIn st.anc rs = true ∧ _ := by
            cases hb : effIn st.anc rs with
            | false => rw [hb] at h'; simp at h'
            | true => rw [hb] at h'; exact ⟨rfl, h'⟩
          have fin : ∀ (v : AV) (h1 : Heap) (out : Out), st.op (evO loc tm) ⟨n, addP (selA st.anc ab) t rs⟩ = some out → OutIs call v h1 out → effV (dopsM call tm t0 l) st rs loc i n ab v h1 = .ok tmE hE →
              ∃ all, (∀ r p, (r :: p) <:+ all → GoodR call tm t0 n0 r p) ∧ (all.map (·.st)).reverse = (rs.map (·.st)).reverse ++ st :: l ∧ chkAll tm (nxOf n0 all) t0 all all = true ∧ tmE = tmOf tm all ∧
                hE = ⟨nxOf n0 all, addP (selE (curOf t0 n0 all).2.1) (curOf t0 n0 all).1 all⟩ := by
            intro v h1 out ho hout he
            unfold effV at he
            cases hb : Nat.ble n h1.next with
            | false => rw [hb] at he; simp at he
            | true =>
              rw [hb] at he
              refine next ⟨st, loc, i, n, h1.next, v, .eff h1.t (Nat.lor st.anc ab)⟩ _ _ ⟨hi, hl, hn, Nat.le_of_ble_eq_true hb, hw, hef, by rw [← hab], out, ?_, hout⟩ rfl he rfl rfl
              rw [← hab, ← ht]
              exact ho
          unfold effM at h'
          split at h'
          · rename_i v h1 ho
            exact fin v h1 _ ho ⟨rfl, rfl⟩ h'
          · rename_i h1 ho
            exact fin _ h1 _ ho ⟨rfl, rfl⟩ h'
          · rename_i f xs h1 ho
            unfold effR at h'
            split at h'
            · rename_i v h2 hcall
              exact fin v h2 _ ho hcall h'
            · simp at h'
          · simp at h'

/-! What was made ready -/

theorem bindsB_eq (e : Edge) : bindsB e = Region.binds .any e := by
  unfold bindsB Region.binds
  cases e.ground <;> rfl

theorem ancE_spec : ∀ (es : List Edge) (ancs : List Nat) (m : Nat), ancE ancs es = some m →
    (∀ e ∈ es, bindsB e = true → e.on < ancs.length) ∧ ∀ j, memB j m = true → ∃ e ∈ es, bindsB e = true ∧ (j = e.on ∨ memB j (ancAt ancs e.on) = true)
  | [], ancs, m, h => by
    simp only [ancE, Option.some.injEq] at h
    subst h
    exact ⟨by simp, fun j hj => by rw [memB_zero] at hj; cases hj⟩
  | e :: es, ancs, m, h => by
    simp only [ancE] at h
    cases hb : bindsB e with
    | false =>
      rw [hb] at h
      simp only [cond_false] at h
      obtain ⟨h1, h2⟩ := ancE_spec es ancs m h
      refine ⟨fun e' he' hb' => ?_, fun j hj => ?_⟩
      · rcases List.mem_cons.1 he' with rfl | he'
        · rw [hb] at hb'; cases hb'
        · exact h1 e' he' hb'
      · obtain ⟨e', he', r⟩ := h2 j hj
        exact ⟨e', by simp [he'], r⟩
    | true =>
      rw [hb] at h
      simp only [cond_true] at h
      obtain ⟨hl, h⟩ := cond_opt h
      cases hr : ancE ancs es with
      | none => simp [hr] at h
      | some m' =>
        simp only [hr, Option.some.injEq] at h
        subst h
        obtain ⟨h1, h2⟩ := ancE_spec es ancs m' hr
        refine ⟨fun e' he' hb' => ?_, fun j hj => ?_⟩
        · rcases List.mem_cons.1 he' with rfl | he'
          · exact Nat.le_of_ble_eq_true hl
          · exact h1 e' he' hb'
        · rw [memB_or, memB_or] at hj
          simp only [Bool.or_eq_true] at hj
          rcases hj with hj | hj | hj
          · exact ⟨e, by simp, hb, .inl ((memB_one j e.on).1 hj)⟩
          · exact ⟨e, by simp, hb, .inr hj⟩
          · obtain ⟨e', he', r⟩ := h2 j hj
            exact ⟨e', by simp [he'], r⟩

theorem ancAt_get : ∀ (l : List Nat) (j : Nat), j < l.length → ancAt l j = (l[l.length - 1 - j]?).getD 0
  | [], j, hj => by simp at hj
  | d :: r, j, hj => by
    simp only [ancAt]
    cases hb : Nat.beq r.length j with
    | true =>
      have := Nat.eq_of_beq_eq_true hb
      subst this
      simp
    | false =>
      have hne := Nat.ne_of_beq_eq_false hb
      have hj' : j < r.length := by simp at hj; omega
      simp only [cond_false]
      rw [ancAt_get r j hj', show (d :: r).length - 1 - j = (r.length - 1 - j) + 1 by simp; omega, List.getElem?_cons_succ]

/-- What each operation waits for. -/
def InfoOK (ops : List Oper) (inf : List (Option Nat × Nat)) : Prop :=
  inf.length = ops.length ∧ ∀ (i : Nat) (o : Oper), ops[i]? = some o → ∃ m, inf[i]? = some (o.dst, m) ∧ (∀ e ∈ o.after.toList, bindsB e = true → e.on < i) ∧
    ∀ j, memB j m = true → ∃ e ∈ o.after.toList, bindsB e = true ∧ (j = e.on ∨ ∃ d m', inf[e.on]? = some (d, m') ∧ memB j m' = true)

theorem infoD_spec : ∀ (l : List Oper) (pre : List (Option Nat × Nat)) (ancs : List Nat) (inf : List (Option Nat × Nat)), ancs = (pre.map (·.2)).reverse → infoD l ancs = some inf →
    inf.length = l.length ∧ ∀ (i : Nat) (o : Oper), l[i]? = some o → ∃ m, inf[i]? = some (o.dst, m) ∧ (∀ e ∈ o.after.toList, bindsB e = true → e.on < pre.length + i) ∧
      ∀ j, memB j m = true → ∃ e ∈ o.after.toList, bindsB e = true ∧ (j = e.on ∨ ∃ d m', (pre ++ inf)[e.on]? = some (d, m') ∧ memB j m' = true)
  | [], pre, ancs, inf, _, h => by
    simp only [infoD, Option.some.injEq] at h
    subst h
    exact ⟨rfl, fun i o ho => by simp at ho⟩
  | o :: l, pre, ancs, inf, hp, h => by
    simp only [infoD] at h
    cases hm : ancE ancs o.after.toList with
    | none => simp [hm] at h
    | some m =>
      simp only [hm] at h
      cases hr : infoD l (m :: ancs) with
      | none => simp [hr] at h
      | some inf' =>
        simp only [hr, Option.some.injEq] at h
        subst h
        obtain ⟨h1, h2⟩ := infoD_spec l (pre ++ [(o.dst, m)]) (m :: ancs) inf' (by simp [hp]) hr
        refine ⟨by simp [h1], fun i o' ho' => ?_⟩
        cases i with
        | zero =>
          simp only [List.getElem?_cons_zero, Option.some.injEq] at ho'
          subst ho'
          obtain ⟨g1, g2⟩ := ancE_spec _ _ _ hm
          have hlen : ancs.length = pre.length := by rw [hp]; simp
          refine ⟨m, by simp, fun e he hb => by have := g1 e he hb; omega, fun j hj => ?_⟩
          obtain ⟨e, he, hb, hj⟩ := g2 j hj
          refine ⟨e, he, hb, hj.imp id fun hj => ?_⟩
          have hlt := g1 e he hb
          rw [ancAt_get _ _ hlt, hp, List.getElem?_reverse (by simp; omega)] at hj
          simp only [List.length_map, List.length_reverse, List.getElem?_map] at hj
          rw [show pre.length - 1 - (pre.length - 1 - e.on) = e.on by omega] at hj
          have hlt' : e.on < pre.length := by omega
          refine ⟨(pre[e.on]).1, (pre[e.on]).2, by rw [List.getElem?_append_left hlt']; simp [hlt'], ?_⟩
          simpa [hlt'] using hj
        | succ i =>
          simp only [List.getElem?_cons_succ] at ho'
          obtain ⟨m', k1, k2, k3⟩ := h2 i o' ho'
          refine ⟨m', by simpa using k1, fun e he hb => by have := k2 e he hb; simp at this; omega, fun j hj => ?_⟩
          obtain ⟨e, he, hb, hj⟩ := k3 j hj
          exact ⟨e, he, hb, hj.imp id fun ⟨d, m', a, b⟩ => ⟨d, m', by simpa using a, b⟩⟩

theorem infoD_ok {ops : List Oper} {inf : List (Option Nat × Nat)} (h : infoD ops [] = some inf) : InfoOK ops inf := by
  obtain ⟨h1, h2⟩ := infoD_spec ops [] [] inf rfl h
  exact ⟨h1, fun i o ho => by simpa using h2 i o ho⟩

def dsOf (ops : List Oper) (i : Nat) : List (Option Nat) := ((ops.take i).map (·.dst)).reverse
theorem dsOf_len (ops : List Oper) (i : Nat) (hi : i ≤ ops.length) : (dsOf ops i).length = i := by simp [dsOf]; omega

/-- What was made of operation i. -/
def LinkS (P : Program) (nt : Nat) (ks : List Nat) (ops : List Oper) (inf : List (Option Nat × Nat)) (i : Nat) (st : DStep) : Prop :=
  ∃ o, ops[i]? = some o ∧ inf[i]? = some (o.dst, st.anc) ∧ cmpOpD P (cmpOD ks (dsOf ops i) st.anc (inf.drop (i + 1))) o.op = some st.op ∧ guardD ks (dsOf ops i) st.anc (inf.drop (i + 1)) o.guard = some st.guard ∧
    keepOf nt ks o.dst = some st.keep ∧ st.cls = clsOf P o.op

theorem cmpDs_link {nt : Nat} {ks : List Nat} {ops : List Oper} {inf : List (Option Nat × Nat)} (hI : InfoOK ops inf) : ∀ (l pre : List Oper) (infl : List (Option Nat × Nat)) (sts : List DStep), ops = pre ++ l → infl = inf.drop pre.length →
    cmpDs P nt ks l infl (pre.map (·.dst)).reverse = some sts → sts.length = l.length ∧ ∀ j st, sts[j]? = some st → LinkS P nt ks ops inf (pre.length + j) st
  | [], pre, infl, sts, _, _, h => by
    have : sts = [] := by
      cases infl <;> (simp only [cmpDs, Option.some.injEq] at h; exact h.symm)
    subst this
    exact ⟨rfl, fun j st hj => by simp at hj⟩
  | o :: l, pre, infl, sts, hops, hinf, h => by
    cases infl with
    | nil => simp [cmpDs] at h
    | cons x infl =>
      simp only [cmpDs] at h
      split at h
      · rename_i f g k hf hg hk
        cases hr : cmpDs P nt ks l infl (o.dst :: (pre.map (·.dst)).reverse) with
        | none => simp [hr, consD] at h
        | some sts' =>
          simp only [hr, consD, Option.some.injEq] at h
          subst h
          have hdrop : infl = inf.drop (pre ++ [o]).length := by
            have := congrArg List.tail hinf
            simpa [List.tail_drop] using this
          obtain ⟨h1, h2⟩ := cmpDs_link hI l (pre ++ [o]) infl sts' (by simpa using hops) hdrop (by simpa using hr)
          refine ⟨by simp [h1], fun j st hj => ?_⟩
          cases j with
          | zero =>
            simp only [List.getElem?_cons_zero, Option.some.injEq] at hj
            subst hj
            have hds : dsOf ops (pre.length + 0) = (pre.map (·.dst)).reverse := by simp [dsOf, hops]
            have hx : inf[pre.length]? = some x := by
              have := congrArg (·[0]?) hinf
              simpa [List.getElem?_drop] using this.symm
            have ho : ops[pre.length + 0]? = some o := by simp [hops]
            obtain ⟨m, hm, _⟩ := hI.2 _ o ho
            have hx' : x = (o.dst, m) := by simp only [Nat.add_zero] at hm; rw [hx] at hm; simpa using hm
            have hd1 : inf.drop (pre.length + 0 + 1) = infl := by rw [hdrop]; simp
            refine ⟨o, ho, by simp only [Nat.add_zero]; rw [hx, hx'], ?_, ?_, hk, rfl⟩
            · rw [hds, hd1]; exact hf
            · rw [hds, hd1]; exact hg
          | succ j =>
            simp only [List.getElem?_cons_succ] at hj
            have := h2 j st hj
            rwa [show (pre ++ [o]).length + j = pre.length + (j + 1) by simp; omega] at this
      · simp at h

theorem idxOf_get : ∀ {ds : List (Option Nat)} {t i : Nat}, idxOf t ds = some i → ds[i]? = some (some t)
  | [], _, _, h => by simp [idxOf] at h
  | some d :: r, t, i, h => by
    rcases idxOf_cons t d r i h with ⟨rfl, rfl⟩ | ⟨_, j, hj, rfl⟩
    · rfl
    · simpa using idxOf_get hj
  | none :: r, t, i, h => by
    obtain ⟨j, hj, rfl⟩ := idxOf_none_cons t r i h
    simpa using idxOf_get hj
theorem idxOf_none : ∀ {ds : List (Option Nat)} {t : Nat}, idxOf t ds = none → ∀ i : Nat, ds[i]? ≠ some (some t)
  | [], _, _, i => by simp
  | some d :: r, t, h, i => by
    simp only [idxOf] at h
    cases hb : Nat.beq d t with
    | true => rw [hb] at h; simp at h
    | false =>
      rw [hb] at h
      simp only [cond_false] at h
      have hr : idxOf t r = none := by cases hq : idxOf t r <;> simp_all [sucO]
      have hne := Nat.ne_of_beq_eq_false hb
      cases i with
      | zero => simpa using hne
      | succ i => simpa using idxOf_none hr i
  | none :: r, t, h, i => by
    simp only [idxOf] at h
    have hr : idxOf t r = none := by cases hq : idxOf t r <;> simp_all [sucO]
    cases i with
    | zero => simp
    | succ i => simpa using idxOf_none hr i

theorem nodupD_spec : ∀ {ds : List (Option Nat)}, nodupD ds = true → ∀ (i j d : Nat), ds[i]? = some (some d) → ds[j]? = some (some d) → i = j
  | [], _, i, j, d, hi, _ => by simp at hi
  | some x :: r, h, i, j, d, hi, hj => by
    simp only [nodupD, Bool.and_eq_true] at h
    have hn : idxOf x r = none := by simpa using h.1
    cases i with
    | zero =>
      cases j with
      | zero => rfl
      | succ j =>
        simp only [List.getElem?_cons_zero, Option.some.injEq] at hi
        subst hi
        exact absurd (by simpa using hj) (idxOf_none hn j)
    | succ i =>
      cases j with
      | zero =>
        simp only [List.getElem?_cons_zero, Option.some.injEq] at hj
        subst hj
        exact absurd (by simpa using hi) (idxOf_none hn i)
      | succ j => exact congrArg (· + 1) (nodupD_spec h.2 i j d (by simpa using hi) (by simpa using hj))
  | none :: r, h, i, j, d, hi, hj => by
    simp only [nodupD] at h
    cases i with
    | zero => simp at hi
    | succ i =>
      cases j with
      | zero => simp at hj
      | succ j => exact congrArg (· + 1) (nodupD_spec h i j d (by simpa using hi) (by simpa using hj))

theorem latOK_spec : ∀ {l : List (Option Nat × Nat)} {i t : Nat}, latOK i t l = true → ∀ (j m : Nat), l[j]? = some (some t, m) → memB i m = true
  | [], _, _, _, j, m, hj => by simp at hj
  | x :: r, i, t, h, j, m, hj => by
    simp only [latOK, Bool.and_eq_true] at h
    cases j with
    | zero =>
      simp only [List.getElem?_cons_zero, Option.some.injEq] at hj
      subst hj
      have := h.1
      simpa using this
    | succ j => exact latOK_spec h.2 j m (by simpa using hj)

end Go.Ev
