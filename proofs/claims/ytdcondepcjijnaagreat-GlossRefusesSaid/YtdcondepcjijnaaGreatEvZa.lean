/-
  CONTRACTS FOR THE EVALUATOR, sixth text: slices.Insert ahead of a slice's end, as a contract.
-/
import Derived.Test.YtdcondepcjijnaaGreatEvZ
namespace Go.Ev
open Go Go.Lib

noncomputable section
def insR (h : Heap) (e size j i n m : Nat) : Option (List AV) → Option (List AV) → RV
  | some old, some new => bif allOne old && allOne new && Nat.ble (n + m) 1073741824 then .ok (.slice (some (h.next, 0)) (n + m) (n + m) false) ((h.set j .dead).new (.flat false e true (old.take (i * size) ++ new ++ old.drop (i * size)))) else .no [7831]
  | _, _ => .no [7832]
def H_insert (e size : Nat) : HookF := fun args h => match args with
  | [.slice (some (j, 0)) n cap false, .int .i64 (.ofNat i), .slice (some (q, 0)) m _ _] =>
    bif Nat.ble n cap && Nat.ble (Nat.succ i) n && Nat.ble 1 m && !(Nat.beq j q) && elemIs e (h.obj j) && plainO (h.obj q) then insR h e size j i n m (loadN h j 0 (n * size)) (loadN h q 0 (m * size)) else .no [7833]
  | _ => .no [7834]
end

variable {P : Program} {ν : V} {h : Heap} {w : World}

theorem run_copy_any {t t' e ty : TypeId} {size : Nat} (hu : P.underlying t = some (.slice e)) (hs : szOf P e = some size) {d s : Addr} {dl dc sl sc k : Nat} {us : List Value} {W W' : World} (hk : min sl dl = k)
    (hl : (loadCells s (k * size)).run P W = .ok us.toArray W) (hst : (storeCells d us).run P W = .ok () W') :
    (Builtin.copy_ #[t, t'] ty #[.slice (some d) dl dc, .slice (some s) sl sc]).run P W = .ok (goInt k) W' := by
  subst hk
  simp [Builtin.copy_, run_underlying hu, szOf_run hs, Builtin.lenOf, Builtin.firstCells, hl, hst]

/-- slices.Insert's two roads at a program's function. -/
structure InsWalk (P : Program) (F TS OV size : Nat) : Prop where
  enter : ∀ args w, (callFunc F args).run P w = .ok (.enter F args) w
  shift : ∀ (b n c i vb m vc : Nat) (w W1 W2 : World), i < n → 0 < m → n + m ≤ c → n + m ≤ 9223372036854775807 →
    (∀ lb cb, (callFunc OV #[.slice (some ⟨vb, 0, none⟩) m vc, .slice (some ⟨b, (i + m) * size, none⟩) lb cb]).run P w = .ok (.value (.bool false)) w) →
    (∀ ty dc sc, (Builtin.copy_ #[TS, TS] ty #[.slice (some ⟨b, (i + m) * size, none⟩) (n + m - (i + m)) dc, .slice (some ⟨b, i * size, none⟩) (n + m - i) sc]).run P w.drew = .ok (goInt (n - i)) W1) →
    (∀ ty dc, (Builtin.copy_ #[TS, TS] ty #[.slice (some ⟨b, i * size, none⟩) (n + m - i) dc, .slice (some ⟨vb, 0, none⟩) m vc]).run P W1 = .ok (goInt m) W2) →
    Calls P F #[.slice (some ⟨b, 0, none⟩) n c, .int .i64 i, .slice (some ⟨vb, 0, none⟩) m vc] w fun e w' => e = .returned (.slice (some ⟨b, 0, none⟩) (n + m) c) ∧ w' = W2
  grow : ∀ (b n c i vb m vc g G : Nat) (w W1 W2 W3 : World), i < n → 0 < m → n ≤ c → c < n + m → n + m ≤ 9223372036854775807 → n + m ≤ G →
    (∀ ty, (Builtin.append_ #[TS, 3] ty #[.slice (some ⟨b, 0, none⟩) i c, .int .i64 ((n : Int) + (m : Int) - (i : Int))]).run P w = .ok (.slice (some ⟨g, 0, none⟩) (n + m) G) W1) →
    (∀ ty dc, (Builtin.copy_ #[TS, TS] ty #[.slice (some ⟨g, i * size, none⟩) (n + m - i) dc, .slice (some ⟨vb, 0, none⟩) m vc]).run P W1 = .ok (goInt m) W2) →
    (∀ ty dc sc, (Builtin.copy_ #[TS, TS] ty #[.slice (some ⟨g, (i + m) * size, none⟩) (n + m - (i + m)) dc, .slice (some ⟨b, i * size, none⟩) (n - i) sc]).run P W2.drew = .ok (goInt (n - i)) W3) →
    Calls P F #[.slice (some ⟨b, 0, none⟩) n c, .int .i64 i, .slice (some ⟨vb, 0, none⟩) m vc] w fun e w' => e = .returned (.slice (some ⟨g, 0, none⟩) (n + m) G) ∧ w' = W3
  overlaps : ∀ (a b : Addr) (la ca lb cb : Nat) (w : World) (tA tB : TypeId) (kA kB : Nat), a.block ≠ b.block → w.shape? a.block = some (tA, kA) → w.shape? b.block = some (tB, kB) → kB ≠ 0 → w.frozen? a = false → w.frozen? { block := a.block, off := kA } = false →
    (callFunc OV #[.slice (some a) la ca, .slice (some b) lb cb]).run P w = .ok (.value (.bool false)) w

theorem insert_ok {F TS OV size e : Nat} (X : InsWalk P F TS OV size) (hu : P.underlying TS = some (.slice e)) (hint : P.underlying 3 = some (.int .i64)) (hs : szOf P e = some size) (hs0 : 0 < size) {i0 : TypeInfo} (hi0 : P.info? e = some i0) {z : Value} (hz : i0.zero = some z) (hzs : z.cells.size = size) (hby : i0.bytes ≤ 4096) :
    HookOK P F (H_insert e size) := by
  intro args h v h' hg ν w vs I r
  unfold H_insert at hg
  split at hg
  · rename_i j n cap i q m mc mx
    cases hc : (Nat.ble n cap && Nat.ble (Nat.succ i) n && Nat.ble 1 m && !(Nat.beq j q) && elemIs e (h.obj j) && plainO (h.obj q)) with
    | false => rw [hc] at hg; simp at hg
    | true =>
      rw [hc] at hg
      simp only [cond_true] at hg
      simp only [Bool.and_eq_true, Bool.not_eq_true'] at hc
      obtain ⟨⟨⟨⟨⟨c0, c1⟩, c2⟩, c3⟩, c4⟩, c5⟩ := hc
      have c0 := Nat.le_of_ble_eq_true c0
      have c1 := Nat.le_of_ble_eq_true c1
      have c2 := Nat.le_of_ble_eq_true c2
      have c3 := Nat.ne_of_beq_eq_false c3
      unfold insR at hg
      cases hold : loadN h j 0 (n * size) with
      | none => simp [hold] at hg
      | some old =>
        cases hnew : loadN h q 0 (m * size) with
        | none => simp [hold, hnew] at hg
        | some new =>
          simp only [hold, hnew] at hg
          cases hb : (allOne old && allOne new && Nat.ble (n + m) 1073741824) with
          | false => rw [hb] at hg; simp at hg
          | true =>
            rw [hb] at hg
            simp only [cond_true] at hg
            obtain ⟨rfl, rfl⟩ := Go.Proofs.RV_inj hg
            simp only [Bool.and_eq_true] at hb
            obtain ⟨⟨o1, o2⟩, o3⟩ := hb
            have o3 := Nat.le_of_ble_eq_true o3
            obtain ⟨vx, s1, rfl, rx, vi, s2, rfl, ri, vv, s3, rfl, rv, rfl⟩ := r
            cases ri
            obtain ⟨hasj, c', rfl, _, hop⟩ := rx
            obtain ⟨g1, g2⟩ := hop rfl
            have g2 := g2 rfl
            obtain ⟨hasq, mc', rfl, _⟩ := rv
            have hes := esz_of (P := P) I hs c4
            rw [hes] at g2
            obtain ⟨lo, os, ro, hco⟩ := loadN_rel (P := P) I hold
            obtain ⟨ln, ns, rn, hcn⟩ := loadN_rel (P := P) I hnew
            have hol := (relL_len ro).symm.trans lo
            have hnl := (relL_len rn).symm.trans ln
            have oneo := allOne_rel ro o1
            have onen := allOne_rel rn o2
            obtain ⟨vcs, ve, hvb, hv0, hvd⟩ := plain_block I c5
            rw [X.enter]
            cases ho : h.obj j with
            | flat ex e' st l =>
              obtain ⟨ob, hblk, rob⟩ := I.obj j (by rw [ho]; simp)
              rw [ho] at rob
              obtain ⟨cs, fz, rfl, hc1, hc2, hc3, hc4, hc5, hc6, hc7⟩ := rob
              rw [ho] at c4
              have he' : e = e' := Nat.eq_of_beq_eq_true c4
              subst he'
              have hjd : h.obj j ≠ .dead := by rw [ho]; simp
              have hbne : ν.blk q ≠ ν.blk j := fun e' => c3 (I.inj q j hvd hjd e').symm
              have hin : i * size + (n - i) * size = n * size := by rw [← Nat.add_mul]; congr 1; omega
              have himn : (i + m) * size = i * size + m * size := Nat.add_mul _ _ _
              have hnm : (n + m) * size = n * size + m * size := Nat.add_mul _ _ _
              have hn0 : 0 < n * size := Nat.mul_pos (by omega) hs0
              -- what moves up
              let mv := os.drop (i * size)
              have hmvl : mv.length = (n - i) * size := by simp only [mv, List.length_drop]; omega
              have hmv : HasCells w (ν.blk j) (i * size) mv := fun k u hk => by
                have := hco (i * size + k) u (by simpa [mv, List.getElem?_drop] using hk)
                simpa using this
              have onemv : ∀ u ∈ mv, u.oneCell' = true := fun u hu => oneo u (List.mem_of_mem_drop hu)
              -- cells of a world with the same blocks
              have later : ∀ {b o : Nat} {l : List Value} {W : World}, HasCells w b o l → W.heap[b]? = w.heap[b]? → HasCells W b o l := fun hc hW k u hk => by
                have := hc k u hk
                unfold World.cell? at this ⊢
                rw [hW]; exact this
              have osget : ∀ k, k < n * size → cs[k]? = os[k]? := fun k hk => by
                obtain ⟨u, hu⟩ : ∃ u, os[k]? = some u := ⟨_, List.getElem?_eq_getElem (by omega)⟩
                have := hco k u hu
                simp only [World.cell?, hblk, Nat.zero_add] at this
                rw [hu]; simpa using this
              by_cases hroom : n + m ≤ c'
              · have hfit : n * size + m * size ≤ cs.size := by
                  have : (n + m) * size ≤ c' * size := Nat.mul_le_mul_right _ hroom
                  simp only at g2; omega
                have hst1 := run_storeCells_fz (P := P) (ν.blk j) ((i + m) * size) e fz mv 0 cs w.drew hblk hc6 (by omega) onemv
                rw [Nat.add_zero] at hst1
                have hhl1 := setRow_heap w.drew (ν.blk j) cs (cs.toList.take ((i + m) * size) ++ mv ++ cs.toList.drop ((i + m) * size + mv.length)).toArray e fz hblk
                have hA : (cs.toList.take ((i + m) * size) ++ mv ++ cs.toList.drop ((i + m) * size + mv.length)).toArray.size = cs.size := splice_size (by omega)
                generalize hW1 : w.drew.setRow (ν.blk j) (cs.toList.take ((i + m) * size) ++ mv ++ cs.toList.drop ((i + m) * size + mv.length)).toArray = W1 at hst1 hhl1
                have hW1q : W1.heap[ν.blk q]? = w.heap[ν.blk q]? := by rw [← hW1, setRow_other _ _ _ _ hbne]; rfl
                have hst2 := run_storeCells_fz (P := P) (ν.blk j) (i * size) e fz ns 0 _ W1 hhl1 (by rw [hA]; exact hc6) (by rw [hA]; omega) onen
                rw [Nat.add_zero] at hst2
                have hcall := X.shift (ν.blk j) n c' i (ν.blk q) m mc' w W1 _ c1 c2 hroom (by omega)
                  (fun lb cb => X.overlaps _ _ _ _ _ _ w ve e vcs.size cs.size hbne (by simp [World.shape?, hvb]) (by simp [World.shape?, hblk]) (by omega) (by simp [World.frozen?, hvb]) (by simp [World.frozen?, hvb]))
                  (fun ty dc sc => by
                    have := run_copy_any (P := P) (t' := TS) (ty := ty) hu hs (d := ⟨ν.blk j, (i + m) * size, none⟩) (s := ⟨ν.blk j, i * size, none⟩) (dl := n + m - (i + m)) (dc := dc) (sl := n + m - i) (sc := sc) (k := n - i) (us := mv) (W := w.drew) (W' := W1) (by omega) (by
                      have := (later hmv (W := w.drew) rfl).run (P := P); rwa [hmvl] at this) hst1
                    rw [this]; congr 1; simp [goInt]; omega)
                  (fun ty dc => run_copy_any (P := P) (t' := TS) (ty := ty) hu hs (k := m) (us := ns) (by omega) (by
                      have := (later hcn hW1q).run (P := P); rwa [hnl] at this) hst2)
                refine hcall.mono ?_
                rintro en w' ⟨rfl, rfl⟩
                generalize hB : ((cs.toList.take ((i + m) * size) ++ mv ++ cs.toList.drop ((i + m) * size + mv.length)).toArray.toList.take (i * size) ++ ns ++ (cs.toList.take ((i + m) * size) ++ mv ++ cs.toList.drop ((i + m) * size + mv.length)).toArray.toList.drop (i * size + ns.length)).toArray = B
                have hBs : B.size = cs.size := by rw [← hB, splice_size (by rw [hA]; omega), hA]
                have hag := V.upd_agree ν h.next (ν.blk j) cs.size size h.next (Nat.le_refl _)
                have hrel : relL ν h.next (old.take (i * size) ++ new ++ old.drop (i * size)) (os.take (i * size) ++ ns ++ mv) := relL_append (relL_append (relL_take _ ro) rn) (relL_drop _ ro)
                have hBget : ∀ k u, (os.take (i * size) ++ ns ++ mv)[k]? = some u → B[k]? = some u := fun k u hk => by
                  have hkl := (List.getElem?_eq_some_iff.1 hk).1
                  simp only [List.length_append, List.length_take, hnl, hmvl] at hkl
                  rw [← hB, List.getElem?_toArray]
                  by_cases k1 : k < i * size
                  · rw [List.append_assoc, List.getElem?_append_left (by simp; omega), List.getElem?_take, if_pos k1] at hk
                    rw [List.append_assoc, List.getElem?_append_left (by simp; omega), List.getElem?_take, if_pos k1]
                    rw [List.append_assoc, List.getElem?_append_left (by simp; omega), List.getElem?_take, if_pos (by omega)]
                    have := osget k (by omega)
                    rw [hk] at this
                    simpa using this
                  · have e1 : (os.take (i * size)).length = i * size := by simp; omega
                    have e2 : ((cs.toList.take ((i + m) * size) ++ mv ++ cs.toList.drop ((i + m) * size + mv.length)).toArray.toList.take (i * size)).length = i * size := by simp; omega
                    by_cases k2 : k < i * size + m * size
                    · rw [List.getElem?_append_left (by simp; omega), List.getElem?_append_right (by omega), e1] at hk
                      rw [List.getElem?_append_left (by rw [List.length_append, e2]; omega), List.getElem?_append_right (by omega), e2]
                      exact hk
                    · rw [List.getElem?_append_right (by rw [List.length_append, e1]; omega), List.length_append, e1] at hk
                      rw [List.getElem?_append_right (by rw [List.length_append, e2]; omega), List.length_append, e2, List.getElem?_drop]
                      have e3 : (cs.toList.take ((i + m) * size)).length = (i + m) * size := by simp; omega
                      rw [show i * size + ns.length + (k - (i * size + ns.length)) = k by omega]
                      rw [List.getElem?_append_left (by rw [List.length_append, e3]; omega), List.getElem?_append_right (by omega), e3, ← hk]
                      congr 1; omega
                have st := Step.alias (P := P) (w' := W1.setRow (ν.blk j) B) I (j := j) hjd (a := .flat false e true (old.take (i * size) ++ new ++ old.drop (i * size))) cs.size size (setRow_heap W1 _ _ _ _ _ hhl1)
                  ⟨B, fz, rfl, fun k a hk => by
                      obtain ⟨u, hu', hr⟩ := relL_get hrel hk
                      exact ⟨u, by rw [Nat.zero_add]; exact hBget k u hu', AV.rel_mono hag (by omega) a u hr⟩,
                    fun q => by simp at q, by rw [hBs]; simp; omega, by rw [hBs]; simp, by simp [cellsOf_sz hs], by rw [hBs]; exact hc6, fun q => by simp at q⟩
                  (by rw [← hW1]; simp) (fun k hk => by rw [setRow_other _ _ _ _ hk, ← hW1, setRow_other _ _ _ _ hk]; rfl) (by rw [← hW1]; rfl) (by rw [← hW1]; rfl) (by rw [← hW1]; rfl)
                refine ⟨_, _, rfl, st, V.upd_has _ _ _ _ _ (by simp), c', by simp, fun q => by simp at q, fun _ => ⟨hroom, fun _ => ?_⟩⟩
                simp only [V.upd_esz, V.upd_cap]
                rw [hc4]; exact g2
              · have hlt : c' < n + m := by omega
                have hbw : ν.blk j < w.heap.size := (Array.getElem?_eq_some_iff.1 hblk).1
                have hqw : ν.blk q < w.heap.size := (Array.getElem?_eq_some_iff.1 hvb).1
                have hik : i + (n + m - i) = n + m := by omega
                have hzero := Go.Lib.run_append_grow_zeros (P := P) w TS 3 0 e i0 z .i64 .i64 hu hint hi0 hz (some ⟨ν.blk j, 0, none⟩) i c' (os.take (i * size))
                let G := grownCap w (n + m) c' e
                have hGn : n + m ≤ G := grownCap_ge w _ _ _
                let ROW : Array Value := (os.take (i * size)).toArray ++ Builtin.zeroCells z.cells (n + m - i) ++ Builtin.zeroCells z.cells (G - (n + m))
                obtain ⟨i0', hi0', hsz0⟩ := szOf_info hs
                rw [hi0] at hi0'
                cases hi0'
                have hfirst : (Builtin.firstCells i0.size i (.slice (some ⟨ν.blk j, 0, none⟩) i c')).run P w.drew = .ok (os.take (i * size)).toArray w.drew := by
                  have hcells : HasCells w.drew (ν.blk j) 0 (os.take (i * size)) := fun k u hk => by
                    rw [List.getElem?_take] at hk
                    split at hk
                    · exact hco k u hk
                    · cases hk
                  have := hcells.run (P := P)
                  rw [show (os.take (i * size)).length = i * size by simp; omega] at this
                  simp [Builtin.firstCells, hsz0, this]
                have hfits : Builtin.nextslicecap (n + m) c' * i0.bytes ≤ 281474976710656 := by
                  have h1 := nextslicecap_le hlt o3
                  have : Builtin.nextslicecap (n + m) c' * i0.bytes ≤ 8589934592 * 4096 := Nat.mul_le_mul h1 hby
                  omega
                have hrz : ∀ ty, (Builtin.append_ #[TS, 3] ty #[.slice (some ⟨ν.blk j, 0, none⟩) i c', .int .i64 ((n : Int) + (m : Int) - (i : Int))]).run P w = .ok (.slice (some ⟨w.heap.size, 0, none⟩) (n + m) G) (w.drew.alloc (.cells ROW e)) := fun ty => by
                  have hkb : (n + m - i) * i0.bytes ≤ 281474976710656 := by
                    have : (n + m - i) * i0.bytes ≤ 1073741824 * 4096 := Nat.mul_le_mul (by omega) hby
                    omega
                  have h := Go.Lib.run_append_grow_zeros (P := P) w TS 3 ty e i0 z .i64 .i64 hu hint hi0 hz (some ⟨ν.blk j, 0, none⟩) i c' (os.take (i * size)) hfirst (n + m - i) (by omega) (by omega) (by omega) (by omega) hkb (by rw [hik]; exact hfits)
                  rw [hik] at h
                  rw [show (n : Int) + (m : Int) - (i : Int) = ((n + m - i : Nat) : Int) by omega]
                  exact h
                have hRs : ROW.size = G * size := by
                  simp only [ROW, Array.size_append, List.size_toArray, zeroCells_size, hzs, List.length_take]
                  have e1 : (n + m - i) * size + i * size = (n + m) * size := by rw [← Nat.add_mul]; congr 1; omega
                  have e2 : (G - (n + m)) * size + (n + m) * size = G * size := by rw [← Nat.add_mul]; congr 1; omega
                  omega
                have hGs : (n + m) * size ≤ G * size := Nat.mul_le_mul_right _ hGn
                have hblk1 : (w.drew.alloc (.cells ROW e)).heap[w.heap.size]? = some (.cells ROW e (0, 0)) := by
                  show (w.heap.push _)[w.heap.size]? = _
                  simp
                have hst1 := run_storeCells_fz (P := P) w.heap.size (i * size) e (0, 0) ns 0 ROW (w.drew.alloc (.cells ROW e)) hblk1 (.inl rfl) (by omega) onen
                rw [Nat.add_zero] at hst1
                have hold1 : ∀ k, k < w.heap.size → (w.drew.alloc (.cells ROW e)).heap[k]? = w.heap[k]? := fun k hk => by
                  show (w.heap.push _)[k]? = _
                  rw [Array.getElem?_push, if_neg (by omega)]
                generalize hA : (ROW.toList.take (i * size) ++ ns ++ ROW.toList.drop (i * size + ns.length)).toArray = A at hst1
                have hAs : A.size = ROW.size := by rw [← hA, splice_size (by omega)]
                have hblk2 := setRow_heap (w.drew.alloc (.cells ROW e)) w.heap.size ROW A e (0, 0) hblk1
                generalize hW2 : (w.drew.alloc (.cells ROW e)).setRow w.heap.size A = W2 at hst1 hblk2
                have hold2 : ∀ k, k < w.heap.size → W2.heap[k]? = w.heap[k]? := fun k hk => by rw [← hW2, setRow_other _ _ _ _ (by omega)]; exact hold1 k hk
                have hst2 := run_storeCells_fz (P := P) w.heap.size ((i + m) * size) e (0, 0) mv 0 A W2.drew hblk2 (.inl rfl) (by omega) onemv
                rw [Nat.add_zero] at hst2
                have hcall := X.grow (ν.blk j) n c' i (ν.blk q) m mc' w.heap.size G w _ W2 _ c1 c2 (by omega) hlt (by omega) hGn hrz
                  (fun ty dc => run_copy_any (P := P) (t' := TS) (ty := ty) hu hs (k := m) (us := ns) (by omega) (by
                      have := (later hcn (hold1 _ hqw)).run (P := P); rwa [hnl] at this) hst1)
                  (fun ty dc sc => by
                    have := run_copy_any (P := P) (t' := TS) (ty := ty) hu hs (d := ⟨w.heap.size, (i + m) * size, none⟩) (s := ⟨ν.blk j, i * size, none⟩) (dl := n + m - (i + m)) (dc := dc) (sl := n - i) (sc := sc) (k := n - i) (us := mv) (W := W2.drew) (by omega) (by
                      have := (later hmv (W := W2.drew) (hold2 _ hbw)).run (P := P); rwa [hmvl] at this) hst2
                    rw [this]; congr 1; simp [goInt]; omega)
                refine hcall.mono ?_
                rintro en w' ⟨rfl, rfl⟩
                generalize hB : (A.toList.take ((i + m) * size) ++ mv ++ A.toList.drop ((i + m) * size + mv.length)).toArray = B
                have hBs : B.size = G * size := by rw [← hB, splice_size (by omega), hAs, hRs]
                have hrel : relL ν h.next (old.take (i * size) ++ new ++ old.drop (i * size)) (os.take (i * size) ++ ns ++ mv) := relL_append (relL_append (relL_take _ ro) rn) (relL_drop _ ro)
                have hBget : ∀ k u, (os.take (i * size) ++ ns ++ mv)[k]? = some u → B[k]? = some u := fun k u hk => by
                  have hkl := (List.getElem?_eq_some_iff.1 hk).1
                  simp only [List.length_append, List.length_take, hnl, hmvl] at hkl
                  have e1 : (os.take (i * size)).length = i * size := by simp; omega
                  have e2 : (A.toList.take ((i + m) * size)).length = (i + m) * size := by simp; omega
                  have e3 : (ROW.toList.take (i * size)).length = i * size := by simp; omega
                  rw [← hB, List.getElem?_toArray]
                  by_cases k2 : k < (i + m) * size
                  · rw [List.append_assoc, List.getElem?_append_left (by omega), List.getElem?_take, if_pos k2, ← hA]
                    show (ROW.toList.take (i * size) ++ ns ++ ROW.toList.drop (i * size + ns.length))[k]? = some u
                    rw [List.getElem?_append_left (by simp; omega)] at hk ⊢
                    by_cases k1 : k < i * size
                    · rw [List.getElem?_append_left (by omega)] at hk
                      rw [List.getElem?_append_left (by omega), List.getElem?_take, if_pos k1]
                      have : ROW[k]? = (os.take (i * size))[k]? := by
                        simp only [ROW]
                        rw [Array.append_assoc, Array.getElem?_append_left (by simp; omega)]
                        simp
                      rw [hk] at this
                      simpa using this
                    · rw [List.getElem?_append_right (by omega), e1] at hk
                      rw [List.getElem?_append_right (by omega), e3]
                      exact hk
                  · rw [List.getElem?_append_right (by simp; omega)] at hk
                    rw [List.getElem?_append_left (by rw [List.length_append, e2]; omega), List.getElem?_append_right (by omega), e2, ← hk]
                    congr 1
                    simp; omega
                have st0 := Step.kill I j
                have hag := V.upd_agree ν h.next w.heap.size B.size size h.next (Nat.le_refl _)
                have st1 := Step.newIn (P := P) (w' := W2.drew.setRow w.heap.size B) st0.inv
                  (by rw [← hW2]; show w.heap.size ≤ _; simp)
                  (fun k hk => by rw [setRow_other _ _ _ _ (by omega)]; exact hold2 k hk) (by rw [← hW2]; rfl) (by rw [← hW2]; rfl) (by rw [← hW2]; rfl)
                  (g := w.heap.size) (Nat.le_refl _) (.flat false e true (old.take (i * size) ++ new ++ old.drop (i * size))) B.size size (setRow_heap W2.drew _ _ _ _ _ hblk2)
                  ⟨B, (0, 0), rfl, fun k a hk => by
                      obtain ⟨u, hu', hr⟩ := relL_get hrel hk
                      exact ⟨u, by rw [Nat.zero_add]; exact hBget k u hu', AV.rel_mono hag (by simp) a u hr⟩,
                    fun q => by simp at q, by rw [hBs]; simp; omega, by simp, by simp [cellsOf_sz hs], .inl rfl, fun q => by simp at q⟩
                refine ⟨_, _, rfl, st0.trans st1, V.upd_has _ _ _ _ _ (by simp), G, by simp, fun q => by simp at q, fun _ => ⟨hGn, fun _ => ?_⟩⟩
                simp only [Heap.next_set, V.upd_esz, V.upd_cap]
                rw [hBs]; exact Nat.le_refl _
            | _ => rw [ho] at c4; simp [elemIs] at c4
  · simp at hg

end Go.Ev
