/-
  CONTRACTS FOR THE EVALUATOR, first text: functions without a body: internal/bytealg's Count and Compare.
-/
import Derived.Test.YtdcondepcjijnaaGreatEvO
import Derived.Lib.Bytealg
namespace Go.Ev
open Go

noncomputable section
def bytesH (h : Heap) : AV → Option (List Nat)
  | .slice none _ _ _ => some []
  | .slice (some a) n _ _ => bytesBind (loadN h a.1 a.2 n)
  | .str s => some s
  | _ => none

def cntN (c : Nat) : List Nat → Nat
  | [] => 0
  | x :: r => bif Nat.beq x c then Nat.succ (cntN c r) else cntN c r
def ltN (x y : Nat) : Bool := Nat.ble (Nat.succ x) y
def cmpN : List Nat → List Nat → Int
  | [], [] => 0
  | [], _ :: _ => -1
  | _ :: _, [] => 1
  | x :: r, y :: s => bif ltN x y then -1 else bif ltN y x then 1 else cmpN r s
def intR (h : Heap) : Option Int → RV
  | some n => .ok (.int .i64 n) h
  | none => .no [7801]
def cntH (c : Nat) : Option (List Nat) → Option Int
  | some l => some (.ofNat (cntN c l))
  | none => none
def cmpH : Option (List Nat) → Option (List Nat) → Option Int
  | some a, some b => some (cmpN a b)
  | _, _ => none
def H_count : HookF := fun args h => match args with
  | [x, .int .u8 (.ofNat c)] => bif Nat.ble 256 c then .no [7802] else intR h (cntH c (bytesH h x))
  | _ => .no [7802]
def H_compare : HookF := fun args h => match args with
  | [x, y] => intR h (cmpH (bytesH h x) (bytesH h y))
  | _ => .no [7803]
end

variable {P : Program} {ν : V} {h : Heap} {w : World}

/-- A contract of one function. -/
def HookOK (P : Program) (f : FuncId) (g : HookF) : Prop := ∀ args h v h', g args h = .ok v h' → ∀ ν w vs, Inv P ν h w → relL ν h.next args vs → CallOK P ν h w v h' ((callFunc f vs.toArray).run P w)

theorem run_loadBytes : ∀ (b : List UInt8) (blk o : Nat) (acc : ByteArray), HasCells w blk o (b.map fun x => .int .u8 x.toNat) →
    (Extern.Bytes.loadBytes ⟨blk, o, none⟩ b.length acc).run P w = .ok ⟨acc.data ++ b.toArray⟩ w
  | [], _, _, acc, _ => by simp [Extern.Bytes.loadBytes]
  | x :: b, blk, o, acc, hc => by
    have h0 : w.cell? ⟨blk, o, none⟩ = some (.int .u8 x.toNat) := by simpa using hc 0 _ rfl
    have hl : (load ⟨blk, o, none⟩ : Sem Value).run P w = .ok (.int .u8 x.toNat) w := by simp [h0]
    have ih := run_loadBytes b blk (o + 1) (acc.push x) (fun j v hj => by
      have := hc (j + 1) v (by simpa using hj)
      rwa [show o + (j + 1) = o + 1 + j by omega] at this)
    have hx : (x.toNat : Int).toNat.toUInt8 = x := by simp
    simp only [List.length_cons, Extern.Bytes.loadBytes, Sem.run_bind, hl, Result.andThen_ok, hx, addr_add, ih]
    congr 2
    simp [ByteArray.push]

theorem bytesH_run (I : Inv P ν h w) {x : AV} {vx : Value} (r : x.rel ν h.next vx) {bs : List Nat} (hb : bytesH h x = some bs) :
    ∃ b : ByteArray, b.data.toList.map UInt8.toNat = bs ∧ (Extern.Bytes.bytesOf vx).run P w = .ok b w := by
  unfold bytesH at hb
  split at hb
  · simp only [Option.some.injEq] at hb
    subst hb
    obtain ⟨_, rfl⟩ := r
    exact ⟨.empty, rfl, rfl⟩
  · rename_i a n _ _
    obtain ⟨_, k, rfl, _⟩ := r
    cases hl : loadN h a.1 a.2 n with
    | none => simp [hl, bytesBind] at hb
    | some l =>
      simp only [hl, bytesBind] at hb
      obtain ⟨hn, s, rs, hc⟩ := loadN_rel (P := P) I hl
      obtain ⟨b, rfl, rfl⟩ := bytesOfAV_rel rs hb
      have hlen : b.length = n := by have := relL_len rs; simp at this; omega
      have := run_loadBytes (P := P) b (ν.blk a.1) a.2 .empty hc
      rw [hlen] at this
      exact ⟨⟨b.toArray⟩, by simp, by simpa [Extern.Bytes.bytesOf] using this⟩
  · simp only [Option.some.injEq] at hb
    subst hb
    obtain ⟨b, rfl, rfl⟩ := r
    exact ⟨b, rfl, rfl⟩
  · simp at hb

theorem cntN_eq (c : UInt8) : ∀ l : List UInt8, cntN c.toNat (l.map UInt8.toNat) = Lib.countByte l c
  | [] => rfl
  | x :: l => by
    have ih := cntN_eq c l
    simp only [Lib.countByte] at ih ⊢
    simp only [List.map_cons, cntN, List.count_cons]
    by_cases e : x = c
    · subst e; simp [ih]
    · have : Nat.beq x.toNat c.toNat = false := by
        cases hb : Nat.beq x.toNat c.toNat with
        | false => rfl
        | true => exact absurd (UInt8.toNat_inj.1 (Nat.eq_of_beq_eq_true hb)) e
      rw [this]; simp [ih, e]

theorem ltN_eq (x y : UInt8) : ltN x.toNat y.toNat = decide (x < y) := by
  unfold ltN
  rw [Bool.eq_iff_iff]
  simp [UInt8.lt_iff_toNat_lt, Nat.ble_eq, Nat.succ_le_iff]

theorem cmpN_eq : ∀ a b : List UInt8, cmpN (a.map UInt8.toNat) (b.map UInt8.toNat) = Lib.compareBytes a b
  | [], [] => rfl
  | [], _ :: _ => rfl
  | _ :: _, [] => rfl
  | x :: a, y :: b => by
    simp only [List.map_cons, cmpN, Lib.compareBytes, ltN_eq, cmpN_eq a b]
    by_cases h1 : x < y <;> by_cases h2 : y < x <;> simp [h1, h2]

theorem count_ok {f : FuncId} {fn : Func} (hf : P.funcs[f]? = some fn) (hname : (fn.name == "runtime.NumGoroutine") = false) (hb : fn.body.isNone = true) (hn : Extern.findNext fn = none) (he : Extern.find fn = some Extern.BytealgCount.count) : HookOK P f H_count := by
  intro args h v h' hg ν w vs I r
  unfold H_count at hg
  split at hg
  · rename_i x c
    cases hc : Nat.ble 256 c with
    | true => rw [hc] at hg; simp at hg
    | false =>
      rw [hc] at hg
      simp only [cond_false] at hg
      have hc' : c < 256 := by
        rcases Nat.lt_or_ge c 256 with q | q
        · exact q
        · rw [Nat.ble_eq_true_of_le q] at hc; cases hc
      cases hx : bytesH h x with
      | none => simp [hx, cntH, intR] at hg
      | some bs =>
        simp only [hx, cntH, intR] at hg
        injection hg with e1 e2
        subst e1; subst e2
        obtain ⟨vx, s, rfl, rx, vc, s', rfl, rc, rfl⟩ := r
        cases rc
        obtain ⟨b, rfl, hrun⟩ := bytesH_run (P := P) I rx hx
        rw [run_callFunc_extern hf hname hb hn he]
        have h1 := Lib.run_countString (P := P) b c w
        have h2 : (Extern.BytealgCount.count #[vx, .int .u8 (.ofNat c)]).run P w = .ok (.int .i64 (Lib.countByte b.data.toList (c : Int).toNat.toUInt8)) w := by
          rw [← h1]
          change Sem.run P (do
            let b ← Extern.Bytes.bytesOf vx
            let c' ← Extern.Bytes.asByte (.int .u8 (.ofNat c))
            pure (goInt (b.foldl (fun n x => if x == c' then n + 1 else n) (0 : Nat)))) w = Sem.run P (do
            let b ← Extern.Bytes.bytesOf (.string b)
            let c' ← Extern.Bytes.asByte (.int .u8 (.ofNat c))
            pure (goInt (b.foldl (fun n x => if x == c' then n + 1 else n) (0 : Nat)))) w
          have hstr : (Extern.Bytes.bytesOf (.string b)).run P w = .ok b w := rfl
          simp only [Sem.run_bind, hrun, hstr, Result.andThen_ok]
        rw [h2]
        refine ⟨ν, Step.refl I, ?_⟩
        have := cntN_eq c.toUInt8 b.data.toList
        rw [show c.toUInt8.toNat = c by simp [Nat.toUInt8]; omega] at this
        show Value.int .i64 _ = .int .i64 _
        rw [this]
        rfl
  · simp at hg

theorem compare_ok {f : FuncId} {fn : Func} (hf : P.funcs[f]? = some fn) (hname : (fn.name == "runtime.NumGoroutine") = false) (hb : fn.body.isNone = true) (hn : Extern.findNext fn = none) (he : Extern.find fn = some Extern.BytealgCompare.compare) : HookOK P f H_compare := by
  intro args h v h' hg ν w vs I r
  unfold H_compare at hg
  split at hg
  · rename_i x y
    cases hx : bytesH h x with
    | none => simp [hx, cmpH, intR] at hg
    | some bs =>
      cases hy : bytesH h y with
      | none => simp [hx, hy, cmpH, intR] at hg
      | some cs =>
        simp only [hx, hy, cmpH, intR] at hg
        injection hg with e1 e2
        subst e1; subst e2
        obtain ⟨vx, s, rfl, rx, vy, s', rfl, ry, rfl⟩ := r
        obtain ⟨b, rfl, hrun⟩ := bytesH_run (P := P) I rx hx
        obtain ⟨d, rfl, hrun'⟩ := bytesH_run (P := P) I ry hy
        rw [run_callFunc_extern hf hname hb hn he]
        have h2 : (Extern.BytealgCompare.compare #[vx, vy]).run P w = .ok (goInt (Extern.BytealgCompare.cmp b d)) w := by
          change Sem.run P (do pure (goInt (Extern.BytealgCompare.cmp (← Extern.Bytes.bytesOf vx) (← Extern.Bytes.bytesOf vy)))) w = _
          simp only [Sem.run_bind, hrun, hrun', Sem.run_pure, Result.andThen_ok]
        rw [h2]
        refine ⟨ν, Step.refl I, ?_⟩
        show goInt _ = .int .i64 _
        rw [cmpN_eq, Lib.cmp_eq]
        rfl
  · simp at hg

end Go.Ev
