/-
  THE EVALUATOR IS RIGHT: regions that draw their order, second text: who only reads.
-/
import Derived.Test.YtdcondepcjijnaaGreatEvP
namespace Go.Ev
open Go

variable {P : Program} {c : Operand → MO}

theorem ok_convR (s d : TypeId) (x : Operand) (hk : cvK P s d = .b2s) : SoundR P (.convert s d x) (F_conv (cvK P s d) (c x)) c := by
  intro ν h w ρA ρ T hT I R out e
  have rx := untag_rel (R x)
  have sp := cvK_spec (P := P) (s := s) (d := d) rfl
  rw [hk] at e sp
  simp only [F_conv] at e
  generalize hax : untag (ρA (c x)) = ax at e rx
  obtain ⟨el, h1, h2, h3⟩ := sp
  have fin : ∀ {v : AV} {u : Value}, (convert s d (ρ x)).run P w = .ok u w → v.rel ν h.next u → out = .val v h → ResR ν h w ((execOp ρ T).run P w) out := by
    rintro v u hr rv rfl
    exact ResR.val (by simp [execOp, hT, hr]) rv
  unfold convE at e
  split at e <;> simp only [reduceCtorEq, Option.some.injEq] at *
  · obtain ⟨_, hx⟩ := rx
    exact fin (v := .str []) (u := .string ⟨#[]⟩) (by rw [hx]; simp [convert, run_underlying h1, run_underlying h2, run_underlying h3, Conv.bytesToString]; rfl) ⟨_, rfl, rfl⟩ e.symm
  · rename_i a n _ _ _
    obtain ⟨v, hv, rfl⟩ := valE_some e
    obtain ⟨_, k', hx, _⟩ := rx
    cases hl : loadN h a.1 a.2 n with
    | none => simp [hl, bytesBind, strE] at hv
    | some l =>
      simp only [hl, bytesBind] at hv
      cases hbs : bytesOfAV l with
      | none => simp [hbs, strE] at hv
      | some bs =>
        simp only [hbs, strE, Option.some.injEq] at hv
        subst hv
        obtain ⟨s', r, hn, hrun⟩ := loadN_run (P := P) I hl
        obtain ⟨b, rfl, rfl⟩ := bytesOfAV_rel r hbs
        obtain ⟨sb, hsb, hr⟩ := run_bytesToString_list (P := P) (w := w) ⟨ν.blk a.1, a.2, none⟩ n k' b hrun
        exact fin (v := .str (b.map UInt8.toNat)) (u := .string sb) (by rw [hx]; simp [convert, run_underlying h1, run_underlying h2, run_underlying h3, hr]) ⟨sb, rfl, by rw [hsb]⟩ rfl

theorem read_sound {op : Op} {f : OpF} (hf : cmpOp P c op = some f) (hk : clsOf P op = 1) : SoundR P op f c := by
  unfold clsOf at hk
  split at hk
  · simp only [cmpOp] at hf
    split at hf
    · rename_i d hs hd
      simp only [Option.some.injEq] at hf; subst hf; exact ok_load _ _ hs (by rw [hd]; rfl)
    · simp at hf
  · simp only [cmpOp] at hf
    split at hf
    · rename_i hu
      split at hf
      · simp only [Option.some.injEq] at hf; subst hf; exact ok_lk _ _ _ _ _ _ hu (by assumption)
      · simp at hf
    · simp at hf
  · simp only [cmpOp, Option.some.injEq] at hf; subst hf; exact ok_bin _ _ _ _ _
  · simp only [cmpOp, Option.some.injEq] at hf
    subst hf
    split at hk
    · rename_i hb
      exact ok_convR _ _ _ hb
    · simp at hk
    · simp at hk
  · simp at hk
  · simp at hk
  · simp at hk
  · simp at hk
  · simp at hk
  · rename_i k
    simp only [cmpOp] at hf
    split at hk
    · rename_i hb
      obtain ⟨callee, args, ts⟩ := k
      simp only at hb hf
      subst hb
      simp only [cmpBlt] at hf
      split at hf
      all_goals first
        | (rename_i ht ha
           cases arr1 ht; cases arr1 ha
           simp only [Option.some.injEq] at hf
           subst hf
           exact ok_len _ _)
        | (rename_i hq; cases hq; done)
        | (simp_all; done)
    · simp at hk
    · simp at hk
    · simp at hk
    · simp at hk
  · simp at hk

/-- Class 1 in a region that draws its order: just what only reads. -/
theorem read_soundD {op : Op} {f : OpF} (hf : cmpOpD P c op = some f) (hk : clsOf P op = 1) : SoundR P op f c := by
  rcases cmpOpD_cases hf with hf | ⟨s, d, x, rfl, hk', rfl⟩
  · exact read_sound hf hk
  · simp [clsOf, hk'] at hk
theorem cls3 {op : Op} {f : OpF} (hf : cmpOpD P c op = some f) (hk : clsOf P op = 3) : ∃ s d x, op = .convert s d x ∧ cvK P s d = .sl ∧ f = F_mark (c x) := by
  have form : ∃ s d x, op = .convert s d x ∧ cvK P s d = .sl := by
    cases op with
    | convert s d x =>
      refine ⟨s, d, x, rfl, ?_⟩
      simp only [clsOf] at hk
      cases hc : cvK P s d <;> rw [hc] at hk <;> first | rfl | (simp at hk)
    | binOp a b x y z =>
      simp only [clsOf] at hk
      split at hk <;> simp at hk
    | call k =>
      simp only [clsOf] at hk
      split at hk <;> simp at hk
    | _ => simp [clsOf] at hk
  obtain ⟨s, d, x, rfl, hc⟩ := form
  simp only [cmpOpD, hc, Option.some.injEq] at hf
  exact ⟨s, d, x, rfl, hc, hf.symm⟩

end Go.Ev
