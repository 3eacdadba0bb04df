/-
  THE EVALUATOR IS RIGHT, first text: what it means that an abstract heap speaks of a world; how a world goes on.
-/
import Derived.Test.YtdcondepcjijnaaGreatEvB
namespace Go.Ev

/-! Trees -/
section
variable {α : Type}
theorem T.get_one (x : α) (p : Path) : ∀ q, (T.one x p).get q = if p = q then some x else none := by
  induction p with
  | nil =>
    intro q
    cases q with
    | nil => rfl
    | cons b q => cases b <;> rfl
  | cons b p ih =>
    intro q
    cases q with
    | nil => cases b <;> rfl
    | cons c q =>
      cases b <;> cases c
      · show (T.one x p).get q = _; rw [ih]; simp
      · show (none : Option α) = _; simp
      · show (none : Option α) = _; simp
      · show (T.one x p).get q = _; rw [ih]; simp

theorem T.get_put (x : α) (p : Path) : ∀ (t : T α) (q), (t.put p x).get q = if p = q then some x else t.get q := by
  induction p with
  | nil =>
    intro t q
    cases t with
    | e => show (T.one x []).get q = _; rw [T.get_one]; rfl
    | n l v r =>
      cases q with
      | nil => rfl
      | cons c q => cases c <;> rfl
  | cons b p ih =>
    intro t q
    cases t with
    | e => show (T.one x (b :: p)).get q = _; rw [T.get_one]; rfl
    | n l v r =>
      cases q with
      | nil => cases b <;> rfl
      | cons c q =>
        cases b <;> cases c
        · show (r.put p x).get q = _; rw [ih]; simp; rfl
        · show l.get q = _; simp; rfl
        · show r.get q = _; simp; rfl
        · show (l.put p x).get q = _; rw [ih]; simp; rfl

def decP : Path → Nat
  | [] => 0
  | true :: p => 2 * decP p + 1
  | false :: p => 2 * decP p + 2

theorem decP_pathF (f : Nat) : ∀ k, k ≤ f → decP (pathF f k) = k := by
  induction f with
  | zero => intro k hk; have : k = 0 := by omega
            subst this; rfl
  | succ f ih =>
    intro k hk
    show decP (Bool.rec (Bool.rec (false :: pathF f (Nat.pred (Nat.div k 2))) (true :: pathF f (Nat.div k 2)) (Nat.beq (Nat.mod k 2) 1)) [] (Nat.beq k 0)) = k
    cases h : Nat.beq k 0 with
    | true => have := Nat.eq_of_beq_eq_true h; subst this; rfl
    | false =>
      have h0 : k ≠ 0 := Nat.ne_of_beq_eq_false h
      have e1 : Nat.div k 2 = k / 2 := rfl
      have e2 : Nat.mod k 2 = k % 2 := rfl
      cases h2 : Nat.beq (Nat.mod k 2) 1 with
      | true =>
        have := Nat.eq_of_beq_eq_true h2
        show 2 * decP (pathF f (Nat.div k 2)) + 1 = k
        rw [ih _ (by omega)]; omega
      | false =>
        have := Nat.ne_of_beq_eq_false h2
        show 2 * decP (pathF f (Nat.pred (Nat.div k 2))) + 2 = k
        rw [ih _ (by rw [Nat.pred_eq_sub_one]; omega), Nat.pred_eq_sub_one]; omega

theorem pathN_inj {a b : Nat} (h : pathN a = pathN b) : a = b := by
  have ha := decP_pathF a a (Nat.le_refl _)
  have hb := decP_pathF b b (Nat.le_refl _)
  unfold pathN at h
  rw [h] at ha
  omega
end

theorem Heap.obj_set (h : Heap) (i : Nat) (o : AObj) (j : Nat) : (h.set i o).obj j = if i = j then o else h.obj j := by
  unfold Heap.set Heap.obj
  simp only [T.get_put]
  by_cases e : i = j
  · subst e; simp [orDead]
  · have : pathN i ≠ pathN j := fun h => e (pathN_inj h)
    simp [this, e]

theorem Heap.obj_new (h : Heap) (o : AObj) (j : Nat) : (h.new o).obj j = if h.next = j then o else h.obj j := by
  have := Heap.obj_set h h.next o j
  exact this

@[simp] theorem Heap.next_set (h : Heap) (i : Nat) (o : AObj) : (h.set i o).next = h.next := rfl
@[simp] theorem Heap.next_new (h : Heap) (o : AObj) : (h.new o).next = h.next + 1 := rfl

/-! What an abstract value, object, heap says -/

/-- Which numbers are given out; which block an abstract block is; how many cells it has; how many its elements have. -/
structure V where
  ok : Nat → Prop
  blk : Nat → Nat
  cap : Nat → Nat
  esz : Nat → Nat
  /-- of a block that never turns: what it is -/
  val : Nat → Obj
  /-- a number of its own -/
  len : Nat → Nat

def V.has (ν : V) (n i : Nat) : Prop := i < n ∧ ν.ok i

mutual
/-- Abstract blocks in it have numbers below n. -/
def AV.rel (ν : V) (n : Nat) : AV → Value → Prop
  | .any, _ => True
  | .bool b, v => v = .bool b
  | .int k m, v => v = .int k m
  | .top k, v => ∃ m, v = .int k m
  | .str s, v => ∃ b : ByteArray, v = .string b ∧ b.data.toList.map UInt8.toNat = s
  | .ptr none, v => v = .pointer none
  | .ptr (some a), v => ν.has n a.1 ∧ v = .pointer (some ⟨ν.blk a.1, a.2, none⟩)
  | .slice none l c ex, v => ex = true ∧ v = .slice none l c
  | .slice (some a) l c ex, v => ν.has n a.1 ∧ ∃ c', v = .slice (some ⟨ν.blk a.1, a.2, none⟩) l c' ∧ (ex = true → c' = c) ∧ (ex = false → c ≤ c' ∧ (a.2 = 0 → c' * ν.esz a.1 ≤ ν.cap a.1))
  | .map none, v => v = .map none
  | .map (some r), v => ν.has n r ∧ v = .map (some (ν.blk r))
  | .func fn f c, v => ∃ f' c' : Array Value, v = .func fn f' c' ∧ relL ν n f f'.toList ∧ relL ν n c c'.toList
  | .nilFunc, v => v = .nilFunc
  | .nilIface, v => v = .nilIface
  | .agg cs, v => ∃ vs : Array Value, v = .agg vs ∧ relL ν n cs vs.toList
  | .tuple cs, v => ∃ vs : Array Value, v = .tuple vs ∧ relL ν n cs vs.toList
  | .rng k lo hi, v => ∃ m, v = .int k m ∧ lo ≤ m ∧ m ≤ hi
  | .strU lo hi, v => ∃ b : ByteArray, v = .string b ∧ lo ≤ b.size ∧ b.size ≤ hi
  | .sliceU i lo hi, v => ν.has n i ∧ ∃ o len cap : Nat, v = .slice (some ⟨ν.blk i, o, none⟩) len cap ∧ lo ≤ len ∧ len ≤ hi ∧ len ≤ cap ∧ o + len ≤ ν.cap i ∧ o + cap ≤ ν.esz i
  | .sliceF i lo hi, v => (lo = 0 ∧ v = .slice none 0 0) ∨ ν.has n i ∧ ∃ (o len cap : Nat) (cs : Array Value) (el : TypeId) (fz : Nat × Nat), v = .slice (some ⟨ν.blk i, o, none⟩) len cap ∧ lo ≤ len ∧ len ≤ hi ∧ ν.val i = .cells cs el fz ∧ ∀ j, j < len → ∃ m, cs[o + j]? = some (.int .u8 m)
  | .sliceT i lo hi, v => ν.has n i ∧ ((lo = 0 ∧ ν.len i = 0 ∧ v = .slice none 0 0) ∨ ∃ (o cap : Nat) (cs : Array Value) (el : TypeId) (fz : Nat × Nat), v = .slice (some ⟨ν.blk i, o, none⟩) (ν.len i) cap ∧ lo ≤ ν.len i ∧ ν.len i ≤ hi ∧ ν.val i = .cells cs el fz ∧ ∀ j, j < ν.len i → ∃ m, cs[o + j]? = some (.int .u8 m))
  | .rngT k lo hi i c, v => ν.has n i ∧ ∃ m, v = .int k m ∧ lo ≤ m ∧ m ≤ hi ∧ m ≤ (ν.len i + c : Nat)
  | .sliceV q lo hi i c, v => ν.has n i ∧ ν.has n q ∧ ∃ o len cap : Nat, v = .slice (some ⟨ν.blk q, o, none⟩) len cap ∧ lo ≤ len ∧ len ≤ hi ∧ len ≤ cap ∧ o + len ≤ ν.cap q ∧ o + cap ≤ ν.esz q ∧ ν.len i + c ≤ len
def relL (ν : V) (n : Nat) : List AV → List Value → Prop
  | [], l => l = []
  | a :: r, l => ∃ v s, l = v :: s ∧ a.rel ν n v ∧ relL ν n r s
end

def V.agree (ν ν' : V) (n : Nat) : Prop := ∀ i, ν.has n i → ν'.ok i ∧ ν'.blk i = ν.blk i ∧ ν'.cap i = ν.cap i ∧ ν'.esz i = ν.esz i ∧ ν'.val i = ν.val i ∧ ν'.len i = ν.len i
theorem V.agree.refl (ν : V) (n : Nat) : ν.agree ν n := fun _ h => ⟨h.2, rfl, rfl, rfl, rfl, rfl⟩
theorem V.agree.trans {a b c : V} {n m : Nat} (h : a.agree b n) (k : b.agree c m) (hm : n ≤ m) : a.agree c n := fun i hi =>
  let ⟨o, x, y, z, u, t⟩ := h i hi; let ⟨o', x', y', z', u', t'⟩ := k i ⟨Nat.lt_of_lt_of_le hi.1 hm, o⟩; ⟨o', x'.trans x, y'.trans y, z'.trans z, u'.trans u, t'.trans t⟩
theorem V.agree.has {ν ν' : V} {n n' : Nat} (h : ν.agree ν' n) (hn : n ≤ n') {i : Nat} (l : ν.has n i) : ν'.has n' i := ⟨Nat.lt_of_lt_of_le l.1 hn, (h i l).1⟩

/-- At this number two views are one. -/
def V.same (ν ν' : V) (i : Nat) : Prop := (ν'.ok i → ν.ok i) ∧ (ν.ok i → ν'.ok i ∧ ν'.blk i = ν.blk i ∧ ν'.cap i = ν.cap i ∧ ν'.esz i = ν.esz i ∧ ν'.val i = ν.val i ∧ ν'.len i = ν.len i)
theorem V.same.refl (ν : V) (i : Nat) : ν.same ν i := ⟨fun h => h, fun h => ⟨h, rfl, rfl, rfl, rfl, rfl⟩⟩
theorem V.same.trans {a b c : V} {i : Nat} (h : a.same b i) (k : b.same c i) : a.same c i := ⟨fun q => h.1 (k.1 q), fun q =>
  let ⟨o, x, y, z, u, t⟩ := h.2 q; let ⟨o', x', y', z', u', t'⟩ := k.2 o; ⟨o', x'.trans x, y'.trans y, z'.trans z, u'.trans u, t'.trans t⟩⟩

mutual
theorem AV.rel_mono {ν ν' : V} {n n' : Nat} (h : ν.agree ν' n) (hn : n ≤ n') : ∀ (a : AV) (v : Value), a.rel ν n v → a.rel ν' n' v
  | .any, _, _ => trivial
  | .bool _, _, r => r
  | .int _ _, _, r => r
  | .top _, _, r => r
  | .str _, _, r => r
  | .ptr none, _, r => r
  | .ptr (some a), _, ⟨l, e⟩ => ⟨h.has hn l, by rw [e, (h _ l).2.1]⟩
  | .slice none _ _ _, _, r => r
  | .slice (some a) _ _ _, _, ⟨l, c', e, x, y⟩ => ⟨h.has hn l, c', by rw [e, (h _ l).2.1], x, fun q => by rw [(h _ l).2.2.1, (h _ l).2.2.2.1]; exact y q⟩
  | .map none, _, r => r
  | .map (some r), _, ⟨l, e⟩ => ⟨h.has hn l, by rw [e, (h _ l).2.1]⟩
  | .func _ f c, _, ⟨f', c', e, x, y⟩ => ⟨f', c', e, relL_mono h hn f _ x, relL_mono h hn c _ y⟩
  | .nilFunc, _, r => r
  | .nilIface, _, r => r
  | .agg cs, _, ⟨vs, e, x⟩ => ⟨vs, e, relL_mono h hn cs _ x⟩
  | .tuple cs, _, ⟨vs, e, x⟩ => ⟨vs, e, relL_mono h hn cs _ x⟩
  | .rng _ _ _, _, r => r
  | .strU _ _, _, r => r
  | .sliceU _ _ _, _, ⟨l, o, len, cap, e, x, y, z, p, q⟩ => ⟨h.has hn l, o, len, cap, by rw [e, (h _ l).2.1], x, y, z, by rw [(h _ l).2.2.1]; exact p, by rw [(h _ l).2.2.2.1]; exact q⟩
  | .sliceT _ _ _, _, ⟨l, .inl ⟨x, y, z⟩⟩ => ⟨h.has hn l, .inl ⟨x, by rw [(h _ l).2.2.2.2.2]; exact y, z⟩⟩
  | .sliceT _ _ _, _, ⟨l, .inr ⟨o, cap, cs, el, fz, e, x, y, z, q⟩⟩ => ⟨h.has hn l, .inr ⟨o, cap, cs, el, fz, by rw [e, (h _ l).2.1, (h _ l).2.2.2.2.2], by rw [(h _ l).2.2.2.2.2]; exact x, by rw [(h _ l).2.2.2.2.2]; exact y, by rw [(h _ l).2.2.2.2.1]; exact z, by rw [(h _ l).2.2.2.2.2]; exact q⟩⟩
  | .rngT _ _ _ _ _, _, ⟨l, m, e, x, y, z⟩ => ⟨h.has hn l, m, e, x, y, by rw [(h _ l).2.2.2.2.2]; exact z⟩
  | .sliceV _ _ _ _ _, _, ⟨l, l', o, len, cap, e, x, y, z, p, q, r⟩ => ⟨h.has hn l, h.has hn l', o, len, cap, by rw [e, (h _ l').2.1], x, y, z, by rw [(h _ l').2.2.1]; exact p, by rw [(h _ l').2.2.2.1]; exact q, by rw [(h _ l).2.2.2.2.2]; exact r⟩
  | .sliceF _ _ _, _, .inl r => .inl r
  | .sliceF _ _ _, _, .inr ⟨l, o, len, cap, cs, el, fz, e, x, y, z, q⟩ => .inr ⟨h.has hn l, o, len, cap, cs, el, fz, by rw [e, (h _ l).2.1], x, y, by rw [(h _ l).2.2.2.2.1]; exact z, q⟩
theorem relL_mono {ν ν' : V} {n n' : Nat} (h : ν.agree ν' n) (hn : n ≤ n') : ∀ (l : List AV) (s : List Value), relL ν n l s → relL ν' n' l s
  | [], _, r => r
  | a :: l, _, ⟨v, s, e, x, y⟩ => ⟨v, s, e, AV.rel_mono h hn a v x, relL_mono h hn l s y⟩
end

theorem untag_rel {ν : V} {n : Nat} : ∀ {a : AV} {v : Value}, a.rel ν n v → (untag a).rel ν n v
  | .sliceT _ _ _, _, ⟨_, .inl ⟨x, _, z⟩⟩ => .inl ⟨x, z⟩
  | .sliceT _ _ _, _, ⟨l, .inr ⟨o, cap, cs, el, fz, e, x, y, z, q⟩⟩ => .inr ⟨l, o, _, cap, cs, el, fz, e, x, y, z, q⟩
  | .rngT _ _ _ _ _, _, ⟨_, m, e, x, y, _⟩ => ⟨m, e, x, y⟩
  | .sliceV _ _ _ _ _, _, ⟨_, l', o, len, cap, e, x, y, z, p, q, _⟩ => ⟨l', o, len, cap, e, x, y, z, p, q⟩
  | .any, _, r => r
  | .bool _, _, r => r
  | .int _ _, _, r => r
  | .top _, _, r => r
  | .str _, _, r => r
  | .ptr _, _, r => r
  | .slice _ _ _ _, _, r => r
  | .map _, _, r => r
  | .func _ _ _, _, r => r
  | .nilFunc, _, r => r
  | .nilIface, _, r => r
  | .agg _, _, r => r
  | .tuple _, _, r => r
  | .rng _ _ _, _, r => r
  | .strU _ _, _, r => r
  | .sliceU _ _ _, _, r => r
  | .sliceF _ _ _, _, r => r

section lists
variable {ν : V} {n : Nat}
theorem relL_len : ∀ {l : List AV} {s : List Value}, relL ν n l s → l.length = s.length
  | [], _, h => by cases h; rfl
  | _ :: _, _, ⟨_, _, e, _, y⟩ => by subst e; simp [relL_len y]
theorem relL_get : ∀ {l : List AV} {s : List Value} {i : Nat} {a : AV}, relL ν n l s → l[i]? = some a → ∃ v, s[i]? = some v ∧ a.rel ν n v
  | [], _, i, a, _, g => by simp at g
  | b :: l, _, 0, a, ⟨v, s, e, x, y⟩, g => by subst e; simp at g; subst g; exact ⟨v, rfl, x⟩
  | b :: l, _, i + 1, a, ⟨v, s, e, x, y⟩, g => by subst e; simp at g; simpa using relL_get y g
theorem relL_append : ∀ {l m : List AV} {s t : List Value}, relL ν n l s → relL ν n m t → relL ν n (l ++ m) (s ++ t)
  | [], _, _, _, h, k => by cases h; exact k
  | _ :: _, _, _, _, ⟨v, s, e, x, y⟩, k => by subst e; exact ⟨v, _, rfl, x, relL_append y k⟩
theorem relL_take : ∀ {l : List AV} {s : List Value} (i : Nat), relL ν n l s → relL ν n (l.take i) (s.take i)
  | [], _, i, h => by cases h; simp [relL]
  | _ :: _, _, 0, _ => by simp [relL]
  | _ :: _, _, i + 1, ⟨v, s, e, x, y⟩ => by subst e; exact ⟨v, _, rfl, x, relL_take i y⟩
theorem relL_drop : ∀ {l : List AV} {s : List Value} (i : Nat), relL ν n l s → relL ν n (l.drop i) (s.drop i)
  | [], _, i, h => by cases h; simp [relL]
  | _ :: _, _, 0, h => h
  | _ :: _, _, i + 1, ⟨v, s, e, x, y⟩ => by subst e; exact relL_drop i y
theorem relL_of_get : ∀ {l : List AV} {s : List Value}, l.length = s.length → (∀ (i : Nat) (a : AV), l[i]? = some a → ∃ v : Value, s[i]? = some v ∧ a.rel ν n v) → relL ν n l s
  | [], [], _, _ => rfl
  | [], _ :: _, h, _ => by simp at h
  | _ :: _, [], h, _ => by simp at h
  | a :: l, v :: s, h, g => ⟨v, s, rfl, by obtain ⟨u, hu, r⟩ := g 0 a rfl; simp at hu; subst hu; exact r, relL_of_get (by simpa using h) fun i b hb => by simpa using g (i + 1) b (by simpa using hb)⟩
theorem relL_map {α : Type} (f : α → AV) (g : α → Value) : ∀ (l : List α), (∀ x ∈ l, (f x).rel ν n (g x)) → relL ν n (l.map f) (l.map g)
  | [], _ => rfl
  | x :: l, h => ⟨g x, l.map g, rfl, h x (by simp), relL_map f g l fun y hy => h y (by simp [hy])⟩
theorem relL_replicate {a : AV} {v : Value} (h : a.rel ν n v) : ∀ k, relL ν n (List.replicate k a) (List.replicate k v)
  | 0 => rfl
  | k + 1 => ⟨v, _, rfl, h, relL_replicate h k⟩
theorem relL_flatten {l : List AV} {s : List Value} (h : relL ν n l s) : ∀ k, relL ν n (List.replicate k l).flatten (List.replicate k s).flatten
  | 0 => rfl
  | k + 1 => by simp only [List.replicate_succ, List.flatten_cons]; exact relL_append h (relL_flatten h k)
end lists

section
variable (P : Program)

/-- No cell of a row is frozen. -/
def thaw (n : Nat) (fz : Nat × Nat) : Prop := fz.1 = fz.2 ∨ n ≤ fz.1
theorem thaw.not {n : Nat} {fz : Nat × Nat} (h : thaw n fz) {o : Nat} (ho : o < n) : ¬ (fz.1 ≤ o ∧ o < fz.2) := by unfold thaw at h; omega

def cellsRel (ν : V) (n : Nat) (l : List AV) (c : Array Value) (o : Nat) : Prop := ∀ (i : Nat) (a : AV), l[i]? = some a → ∃ u : Value, c[o + i]? = some u ∧ a.rel ν n u

def entRel (ν : V) (n : Nat) : List (AV × AV × Nat) → List MapEntry → Prop
  | [], l => l = []
  | x :: r, l => ∃ e s, l = e :: s ∧ x.1.rel ν n e.key ∧ x.2.1.rel ν n e.val ∧ e.born = x.2.2 ∧ entRel ν n r s

def ObjRel (ν : V) (n : Nat) (i : Nat) : AObj → Obj → Prop
  | .flat ex e st l, o => ∃ c fz, o = .cells c e fz ∧ cellsRel ν n l c 0 ∧ (ex = true → c.size = l.length) ∧ l.length ≤ c.size ∧ c.size = ν.cap i ∧ ν.esz i = P.cellsOf e ∧ thaw c.size fz ∧ (st = false → fz = (0, 0))
  | .tree e s m d t, o => ∃ c, o = .cells c e (0, 0) ∧ c.size = m * s ∧ 0 < s ∧ ∀ k, k < m → (rowAt d t k).length = s ∧ cellsRel ν n (rowAt d t k) c (k * s)
  | .map es k, o => ∃ es' : Array MapEntry, o = .map es' k ∧ entRel ν n es es'.toList
  | .bytes e, o => ∃ c fz, o = .cells c e fz ∧ c.size = ν.esz i ∧ ν.cap i ≤ ν.esz i ∧ (∀ j, j < ν.cap i → ∃ m, c[j]? = some (.int .u8 m)) ∧ thaw c.size fz
  | .fixed, o => o = ν.val i
  | .mIter m since seen stepped, o => o = .mapIter (m.map ν.blk) since seen.toArray stepped ∧ ∀ r, m = some r → ν.has n r
  | .sIter s pos, o => ∃ b : ByteArray, o = .stringIter b pos ∧ b.data.toList.map UInt8.toNat = s
  | .dead, _ => True

theorem cellsRel_mono {ν ν' : V} {n n' : Nat} (h : ν.agree ν' n) (hn : n ≤ n') {l : List AV} {c : Array Value} {o : Nat} (r : cellsRel ν n l c o) : cellsRel ν' n' l c o :=
  fun i a g => let ⟨u, hu, x⟩ := r i a g; ⟨u, hu, AV.rel_mono h hn a u x⟩
theorem entRel_mono {ν ν' : V} {n n' : Nat} (h : ν.agree ν' n) (hn : n ≤ n') : ∀ {es : List (AV × AV × Nat)} {l : List MapEntry}, entRel ν n es l → entRel ν' n' es l
  | [], _, r => r
  | _ :: _, _, ⟨e, s, q, x, y, z, r⟩ => ⟨e, s, q, AV.rel_mono h hn _ _ x, AV.rel_mono h hn _ _ y, z, entRel_mono h hn r⟩
theorem ObjRel_mono {ν ν' : V} {n n' : Nat} (h : ν.agree ν' n) (hn : n ≤ n') {i : Nat} (hi : ν.has n i) : ∀ {a : AObj} {o : Obj}, ObjRel P ν n i a o → ObjRel P ν' n' i a o
  | .flat _ _ _ _, _, ⟨c, fz, e, r, x, y, z, q, t, u⟩ => ⟨c, fz, e, cellsRel_mono h hn r, x, y, z.trans (h i hi).2.2.1.symm, (h i hi).2.2.2.1.trans q, t, u⟩
  | .tree _ _ _ _ _, _, ⟨c, e, x, y, r⟩ => ⟨c, e, x, y, fun k hk => ⟨(r k hk).1, cellsRel_mono h hn (r k hk).2⟩⟩
  | .map _ _, _, ⟨es, e, r⟩ => ⟨es, e, entRel_mono h hn r⟩
  | .bytes _, _, ⟨c, fz, e, x, y, z, q⟩ => ⟨c, fz, e, x.trans (h i hi).2.2.2.1.symm, by rw [(h i hi).2.2.1, (h i hi).2.2.2.1]; exact y, by rw [(h i hi).2.2.1]; exact z, q⟩
  | .fixed, _, x => x.trans (h i hi).2.2.2.2.1.symm
  | .mIter none _ _ _, _, ⟨x, _⟩ => ⟨x, fun r q => by simp at q⟩
  | .mIter (some r) _ _ _, _, ⟨x, y⟩ => ⟨by rw [x]; simp only [Option.map_some, (h r (y r rfl)).2.1], fun r' q => by cases q; exact h.has hn (y r rfl)⟩
  | .sIter _ _, _, x => x
  | .dead, _, _ => trivial

/-- The abstract heap speaks of the world. -/
structure Inv (ν : V) (h : Heap) (w : World) : Prop where
  bound : ∀ i, h.obj i ≠ .dead → i < h.next
  okl : ∀ i, h.obj i ≠ .dead → ν.ok i
  obj : ∀ i, h.obj i ≠ .dead → ∃ o, w.heap[ν.blk i]? = some o ∧ ObjRel P ν h.next i (h.obj i) o
  inj : ∀ i j, h.obj i ≠ .dead → h.obj j ≠ .dead → ν.blk i = ν.blk j → i = j

/-- From one world to a later one; what the abstract heap doesn't speak of stays. -/
structure Step (ν : V) (h : Heap) (w : World) (ν' : V) (h' : Heap) (w' : World) : Prop where
  ext : ν.agree ν' h.next
  fresh : ∀ i, i < h.next → ν'.ok i → ν.ok i
  next : h.next ≤ h'.next
  above : ∀ i, h'.next ≤ i → ν.same ν' i
  inv : Inv P ν' h' w'
  prov : ∀ i, h'.obj i ≠ .dead → (∃ j, h.obj j ≠ .dead ∧ ν'.blk i = ν.blk j) ∨ w.heap.size ≤ ν'.blk i
  frame : ∀ k, k < w.heap.size → (∀ i, h.obj i ≠ .dead → ν.blk i ≠ k) → w'.heap[k]? = w.heap[k]?
  os : w'.os = w.os
  tape : w'.tape = w.tape
  output : w'.output = w.output
  size : w.heap.size ≤ w'.heap.size

variable {P}
theorem Inv.has {ν : V} {h : Heap} {w : World} (i : Inv P ν h w) (j : Nat) (hj : h.obj j ≠ .dead) : ν.has h.next j := ⟨i.bound j hj, i.okl j hj⟩
theorem Step.refl {ν : V} {h : Heap} {w : World} (i : Inv P ν h w) : Step P ν h w ν h w :=
  ⟨V.agree.refl _ _, fun _ _ q => q, Nat.le_refl _, fun _ _ => V.same.refl _ _, i, fun k hk => .inl ⟨k, hk, rfl⟩, fun _ _ _ => rfl, rfl, rfl, rfl, Nat.le_refl _⟩

theorem Step.trans {ν ν₁ ν₂ : V} {h h₁ h₂ : Heap} {w w₁ w₂ : World} (a : Step P ν h w ν₁ h₁ w₁) (b : Step P ν₁ h₁ w₁ ν₂ h₂ w₂) : Step P ν h w ν₂ h₂ w₂ where
  ext := a.ext.trans b.ext a.next
  fresh := fun i hi q => a.fresh i hi (b.fresh i (Nat.lt_of_lt_of_le hi a.next) q)
  next := Nat.le_trans a.next b.next
  above := fun i hi => (a.above i (Nat.le_trans b.next hi)).trans (b.above i hi)
  inv := b.inv
  prov := fun i hi => by
    rcases b.prov i hi with ⟨j, hj, e⟩ | hb
    · rcases a.prov j hj with ⟨k, hk, e'⟩ | ha
      · exact .inl ⟨k, hk, e.trans e'⟩
      · exact .inr (e ▸ ha)
    · exact .inr (Nat.le_trans a.size hb)
  frame := fun k hk hn => by
    rw [b.frame k (Nat.lt_of_lt_of_le hk a.size), a.frame k hk hn]
    intro i hi e
    rcases a.prov i hi with ⟨j, hj, e'⟩ | ha
    · exact hn j hj (e'.symm.trans e)
    · omega
  os := b.os.trans a.os
  tape := b.tape.trans a.tape
  output := b.output.trans a.output
  size := Nat.le_trans a.size b.size

/-- A world with the same heap. -/
theorem Inv.same {ν : V} {h : Heap} {w w' : World} (i : Inv P ν h w) (e : w'.heap = w.heap) : Inv P ν h w' := ⟨i.bound, i.okl, fun k hk => by rw [e]; exact i.obj k hk, i.inj⟩
theorem Step.drew {ν : V} {h : Heap} {w : World} (i : Inv P ν h w) (d : Nat) : Step P ν h w ν h { w with drawn := d } :=
  ⟨V.agree.refl _ _, fun _ _ q => q, Nat.le_refl _, fun _ _ => V.same.refl _ _, i.same rfl, fun k hk => .inl ⟨k, hk, rfl⟩, fun _ _ _ => rfl, rfl, rfl, rfl, Nat.le_refl _⟩

def V.upd (ν : V) (i b c e : Nat) : V := ⟨fun j => j = i ∨ ν.ok j, fun j => if j = i then b else ν.blk j, fun j => if j = i then c else ν.cap j, fun j => if j = i then e else ν.esz j, ν.val, ν.len⟩
theorem V.upd_agree' (ν : V) (i b c e n : Nat) (h : ¬ ν.has n i) : ν.agree (ν.upd i b c e) n := fun j hj => by
  have : j ≠ i := fun q => h (q ▸ hj)
  simp [V.upd, this, hj.2]
theorem V.upd_agree (ν : V) (i b c e n : Nat) (h : n ≤ i) : ν.agree (ν.upd i b c e) n := ν.upd_agree' i b c e n fun q => by have := q.1; omega
theorem V.upd_ok (ν : V) (i b c e : Nat) : (ν.upd i b c e).ok i := .inl rfl
theorem V.upd_has (ν : V) (i b c e : Nat) {n : Nat} (h : i < n) : (ν.upd i b c e).has n i := ⟨h, .inl rfl⟩
theorem V.upd_same (ν : V) (i b c e : Nat) {j : Nat} (h : j ≠ i) : ν.same (ν.upd i b c e) j := ⟨fun q => q.resolve_left h, fun q => ⟨.inr q, by simp [V.upd, h]⟩⟩
theorem V.upd_fresh (ν : V) (i b c e : Nat) {j : Nat} (h : j ≠ i) (q : (ν.upd i b c e).ok j) : ν.ok j := q.resolve_left h
@[simp] theorem V.upd_blk (ν : V) (i b c e : Nat) : (ν.upd i b c e).blk i = b := by simp [V.upd]
@[simp] theorem V.upd_cap (ν : V) (i b c e : Nat) : (ν.upd i b c e).cap i = c := by simp [V.upd]
@[simp] theorem V.upd_esz (ν : V) (i b c e : Nat) : (ν.upd i b c e).esz i = e := by simp [V.upd]
theorem V.upd_ne (ν : V) (i b c e : Nat) {j : Nat} (h : j ≠ i) : (ν.upd i b c e).blk j = ν.blk j := by simp [V.upd, h]

/-- A new block. -/
theorem Step.new {ν : V} {h : Heap} {w : World} (i : Inv P ν h w) (a : AObj) (o : Obj) (c e d : Nat)
    (r : ObjRel P (ν.upd h.next w.heap.size c e) (h.next + 1) h.next a o) :
    Step P ν h w (ν.upd h.next w.heap.size c e) (h.new a) { w with heap := w.heap.push o, drawn := d } := by
  have hag := V.upd_agree ν h.next w.heap.size c e h.next (Nat.le_refl _)
  have hlt : ∀ j, h.obj j ≠ .dead → ν.blk j < w.heap.size := fun j hj => by
    obtain ⟨o', ho, _⟩ := i.obj j hj
    rcases Nat.lt_or_ge (ν.blk j) w.heap.size with q | q
    · exact q
    · simp [Array.getElem?_eq_none q] at ho
  have hold : ∀ j, (h.new a).obj j ≠ .dead → j ≠ h.next → h.obj j ≠ .dead := fun j hj hne => by
    rw [Heap.obj_new, if_neg (fun q => hne q.symm)] at hj; exact hj
  refine ⟨hag, fun j hj q => V.upd_fresh _ _ _ _ _ (by omega) q, by simp, fun j hj => V.upd_same _ _ _ _ _ (by simp at hj; omega), ⟨?_, ?_, ?_, ?_⟩, ?_, ?_, rfl, rfl, rfl, by simp⟩
  · intro j hj
    by_cases q : j = h.next
    · simp [q]
    · have := i.bound j (hold j hj q); simp; omega
  · intro j hj
    by_cases q : j = h.next
    · exact .inl q
    · exact .inr (i.okl j (hold j hj q))
  · intro j hj
    by_cases q : j = h.next
    · subst q
      refine ⟨o, by simp, ?_⟩
      rw [Heap.obj_new, if_pos rfl]; exact r
    · have hj' := hold j hj q
      obtain ⟨o', ho, r'⟩ := i.obj j hj'
      refine ⟨o', ?_, ?_⟩
      · rw [V.upd_ne _ _ _ _ _ q]
        show (w.heap.push o)[ν.blk j]? = some o'
        rw [Array.getElem?_push, if_neg (by have := hlt j hj'; omega)]; exact ho
      · rw [Heap.obj_new, if_neg (fun q' => q q'.symm)]
        exact ObjRel_mono P hag (by simp) (i.has j hj') r'
  · intro j k hj hk e'
    by_cases q : j = h.next <;> by_cases q' : k = h.next
    · omega
    · subst q; rw [V.upd_blk, V.upd_ne _ _ _ _ _ q'] at e'; have := hlt k (hold k hk q'); omega
    · subst q'; rw [V.upd_blk, V.upd_ne _ _ _ _ _ q] at e'; have := hlt j (hold j hj q); omega
    · rw [V.upd_ne _ _ _ _ _ q, V.upd_ne _ _ _ _ _ q'] at e'; exact i.inj j k (hold j hj q) (hold k hk q') e'
  · intro j hj
    by_cases q : j = h.next
    · subst q; exact .inr (by simp)
    · exact .inl ⟨j, hold j hj q, V.upd_ne _ _ _ _ _ q⟩
  · intro k hk _
    show (w.heap.push o)[k]? = _
    rw [Array.getElem?_push, if_neg (by omega)]

theorem Step.has_new {ν ν' : V} {h : Heap} {w w' : World} {a : AObj} (s : Step P ν h w ν' (h.new a) w') (ha : a ≠ .dead := by simp) : ν'.has (h.next + 1) h.next :=
  s.inv.has h.next (by rw [Heap.obj_new, if_pos rfl]; exact ha)

/-- One block has turned. -/
theorem Step.set {ν : V} {h : Heap} {w w' : World} (i : Inv P ν h w) {j : Nat} (hj : h.obj j ≠ .dead) {a : AObj} {o : Obj} (ho : w'.heap[ν.blk j]? = some o)
    (r : ObjRel P ν h.next j a o) (hs : w'.heap.size = w.heap.size) (hf : ∀ k, k ≠ ν.blk j → w'.heap[k]? = w.heap[k]?)
    (h1 : w'.os = w.os) (h2 : w'.tape = w.tape) (h3 : w'.output = w.output) : Step P ν h w ν (h.set j a) w' := by
  have hold : ∀ k, (h.set j a).obj k ≠ .dead → h.obj k ≠ .dead := fun k hk => by
    by_cases q : j = k
    · subst q; exact hj
    · rw [Heap.obj_set, if_neg q] at hk; exact hk
  refine ⟨V.agree.refl _ _, fun _ _ q => q, Nat.le_refl _, fun _ _ => V.same.refl _ _, ⟨fun k hk => i.bound k (hold k hk), fun k hk => i.okl k (hold k hk), fun k hk => ?_, fun k l hk hl e => i.inj k l (hold k hk) (hold l hl) e⟩, fun k hk => .inl ⟨k, hold k hk, rfl⟩, fun k hk hn => hf k fun e => hn j hj e.symm, h1, h2, h3, Nat.le_of_eq hs.symm⟩
  by_cases q : j = k
  · subst q
    exact ⟨o, ho, by rw [Heap.obj_set, if_pos rfl]; exact r⟩
  · obtain ⟨o', ho', r'⟩ := i.obj k (hold k hk)
    refine ⟨o', ?_, by rw [Heap.obj_set, if_neg q]; exact r'⟩
    rw [hf _ fun e => q (i.inj k j (hold k hk) hj e).symm]; exact ho'

theorem Inv.congr {ν : V} {h h' : Heap} {w : World} (i : Inv P ν h w) (e : ∀ j, h'.obj j = h.obj j) (n : h'.next = h.next) : Inv P ν h' w :=
  ⟨fun j hj => by rw [n]; exact i.bound j (e j ▸ hj), fun j hj => i.okl j (e j ▸ hj), fun j hj => by rw [n, e j]; exact i.obj j (e j ▸ hj), fun j k hj hk => i.inj j k (e j ▸ hj) (e k ▸ hk)⟩
theorem Step.congr {ν ν' : V} {h h' h'' : Heap} {w w' : World} (s : Step P ν h w ν' h' w') (e : ∀ j, h''.obj j = h'.obj j) (n : h''.next = h'.next) : Step P ν h w ν' h'' w' :=
  ⟨s.ext, s.fresh, n ▸ s.next, fun j hj => s.above j (n ▸ hj), s.inv.congr e n, fun j hj => s.prov j (e j ▸ hj), s.frame, s.os, s.tape, s.output, s.size⟩

/-- One block is forgotten. -/
theorem Step.kill {ν : V} {h : Heap} {w : World} (i : Inv P ν h w) (j : Nat) : Step P ν h w ν (h.set j .dead) w := by
  have hold : ∀ k, (h.set j .dead).obj k ≠ .dead → h.obj k ≠ .dead ∧ j ≠ k := fun k hk => by
    by_cases q : j = k
    · subst q; rw [Heap.obj_set, if_pos rfl] at hk; exact (hk rfl).elim
    · rw [Heap.obj_set, if_neg q] at hk; exact ⟨hk, q⟩
  refine ⟨V.agree.refl _ _, fun _ _ q => q, Nat.le_refl _, fun _ _ => V.same.refl _ _, ⟨fun k hk => i.bound k (hold k hk).1, fun k hk => i.okl k (hold k hk).1, fun k hk => ?_, fun k l hk hl e => i.inj k l (hold k hk).1 (hold l hl).1 e⟩, fun k hk => .inl ⟨k, (hold k hk).1, rfl⟩, fun _ _ _ => rfl, rfl, rfl, rfl, Nat.le_refl _⟩
  obtain ⟨o', ho', r'⟩ := i.obj k (hold k hk).1
  exact ⟨o', ho', by rw [Heap.obj_set, if_neg (hold k hk).2]; exact r'⟩

end
end Go.Ev
