/-
  CONTRACTS FOR THE EVALUATOR, third text: a callee that lays new blocks and turns no old one.
-/
import Derived.Test.YtdcondepcjijnaaGreatEvW
namespace Go.Ev
open Go

variable {P : Program} {ν : V} {h : Heap} {w : World}

/-- A new block, wherever behind the old ones. -/
theorem Step.newIn {w' : World} (i : Inv P ν h w) (hs : w.heap.size ≤ w'.heap.size) (hf : ∀ k, k < w.heap.size → w'.heap[k]? = w.heap[k]?) (h1 : w'.os = w.os) (h2 : w'.tape = w.tape) (h3 : w'.output = w.output)
    {g : Nat} (hg : w.heap.size ≤ g) (a : AObj) {o : Obj} (c e : Nat) (ho : w'.heap[g]? = some o) (r : ObjRel P (ν.upd h.next g c e) (h.next + 1) h.next a o) :
    Step P ν h w (ν.upd h.next g c e) (h.new a) w' := by
  have hag := V.upd_agree ν h.next g c e h.next (Nat.le_refl _)
  have hlt : ∀ j, h.obj j ≠ .dead → ν.blk j < w.heap.size := fun j hj => by
    obtain ⟨o', ho, _⟩ := i.obj j hj
    exact (Array.getElem?_eq_some_iff.1 ho).1
  have hold : ∀ j, (h.new a).obj j ≠ .dead → j ≠ h.next → h.obj j ≠ .dead := fun j hj hne => by
    rw [Heap.obj_new, if_neg (fun q => hne q.symm)] at hj; exact hj
  refine ⟨hag, fun j hj q => V.upd_fresh _ _ _ _ _ (by omega) q, by simp, fun j hj => V.upd_same _ _ _ _ _ (by simp at hj; omega), ⟨?_, ?_, ?_, ?_⟩, ?_, ?_, h1, h2, h3, hs⟩
  · intro j hj
    by_cases q : j = h.next
    · simp [q]
    · have := i.bound j (hold j hj q); simp; omega
  · intro j hj
    by_cases q : j = h.next
    · exact .inl q
    · exact .inr (i.okl j (hold j hj q))
  · intro j hj
    by_cases q : j = h.next
    · subst q
      refine ⟨o, by simpa using ho, ?_⟩
      rw [Heap.obj_new, if_pos rfl]; exact r
    · have hj' := hold j hj q
      obtain ⟨o', ho', r'⟩ := i.obj j hj'
      refine ⟨o', ?_, ?_⟩
      · rw [V.upd_ne _ _ _ _ _ q, hf _ (hlt j hj')]; exact ho'
      · rw [Heap.obj_new, if_neg (fun q' => q q'.symm)]
        exact ObjRel_mono P hag (by simp) (i.has j hj') r'
  · intro j k hj hk e'
    by_cases q : j = h.next <;> by_cases q' : k = h.next
    · omega
    · subst q; rw [V.upd_blk, V.upd_ne _ _ _ _ _ q'] at e'; have := hlt k (hold k hk q'); omega
    · subst q'; rw [V.upd_blk, V.upd_ne _ _ _ _ _ q] at e'; have := hlt j (hold j hj q); omega
    · rw [V.upd_ne _ _ _ _ _ q, V.upd_ne _ _ _ _ _ q'] at e'; exact i.inj j k (hold j hj q) (hold k hk q') e'
  · intro j hj
    by_cases q : j = h.next
    · subst q; exact .inr (by simpa using hg)
    · exact .inl ⟨j, hold j hj q, V.upd_ne _ _ _ _ _ q⟩
  · exact fun k hk _ => hf k hk

/-- Nothing that is spoken of turns. -/
theorem Step.quiet {w' : World} (i : Inv P ν h w) (hs : w.heap.size ≤ w'.heap.size) (hf : ∀ k, k < w.heap.size → w'.heap[k]? = w.heap[k]?) (h1 : w'.os = w.os) (h2 : w'.tape = w.tape) (h3 : w'.output = w.output) : Step P ν h w ν h w' :=
  ⟨V.agree.refl _ _, fun _ _ q => q, Nat.le_refl _, fun _ _ => V.same.refl _ _, ⟨i.bound, i.okl, fun j hj => by
    obtain ⟨o, ho, r⟩ := i.obj j hj
    exact ⟨o, by rw [hf _ (i.blt hj)]; exact ho, r⟩, i.inj⟩, fun j hj => .inl ⟨j, hj, rfl⟩, fun k hk _ => hf k hk, h1, h2, h3, hs⟩

end Go.Ev
