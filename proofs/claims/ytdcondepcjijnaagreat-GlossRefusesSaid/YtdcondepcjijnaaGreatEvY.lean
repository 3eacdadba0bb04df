/-
  CONTRACTS FOR THE EVALUATOR, fourth text: slices.Sorted(maps.Keys(m)) at ints.
-/
import Derived.Test.YtdcondepcjijnaaGreatEvX
import Derived.Shelf.SlIterI.Nil
import Derived.Shelf.SortM.Plain
import Derived.Shelf.SortM.SortNone
import Derived.Ground.GgzProg
import Derived.Ground.SlgmProg
namespace Go.Proofs
open Go.RowKit Go.Maps Go.Sort Go.Shelf

def Tryz.keysA_ren : Go.Shelf.Ren := ⟨fun | 7 => 59 | 10 => 112 | n => n, fun | 23 => 114 | 26 => 3 | 3 => 4 | 28 => 112 | 0 => 0 | 27 => 111 | 33 => 128 | 4 => 4 | n => n, fun | n => n⟩
theorem Tryz.keysA : Go.Proofs.SlLaysZI.n7 Tryz.prog Tryz.keysA_ren where
  mixed := by kernel_rfl
  f7 := ⟨ "maps.Keys[map[int]bool,int,bool]", by decide, Tryz.func59.trans (congrArg some (by kernel_rfl))⟩
  f10 := ⟨ "maps.Keys[map[int]bool,int,bool]$1", by decide, Tryz.func112.trans (congrArg some (by kernel_rfl))⟩
  t0 := Tryz.underlying0
  a0 := Tryz.isAgg0
  z0 := Tryz.sizeOf0
  v0 := Tryz.zeroValue0
  t4 := Tryz.underlying4
  a4 := Tryz.isAgg4
  z4 := Tryz.sizeOf4
  v4 := Tryz.zeroValue4
  t23 := Tryz.underlying114
  a23 := Tryz.isAgg114
  z23 := Tryz.sizeOf114
  v23 := Tryz.zeroValue114
  t26 := Tryz.underlying3
  a26 := Tryz.isAgg3
  z26 := Tryz.sizeOf3
  v26 := Tryz.zeroValue3
  t27 := Tryz.underlying111
  a27 := Tryz.isAgg111
  z27 := Tryz.sizeOf111
  v27 := Tryz.zeroValue111
  t28 := Tryz.underlying112
  a28 := Tryz.isAgg112
  z28 := Tryz.sizeOf112
  v28 := Tryz.zeroValue112
  t33 := Tryz.underlying128
  a33 := Tryz.isAgg128
  z33 := Tryz.sizeOf128
  v33 := Tryz.zeroValue128
def Tryz.sortedA_ren : Go.Shelf.Ren := ⟨fun | 6 => 58 | 8 => 111 | 9 => 48 | 11 => 153 | 13 => 95 | 12 => 94 | 23 => 141 | 24 => 142 | 14 => 132 | 15 => 133 | 16 => 134 | 17 => 135 | 18 => 136 | 19 => 137 | 20 => 138 | 21 => 139 | 22 => 140 | 25 => 166 | 26 => 167 | 27 => 168 | 28 => 169 | 29 => 170 | 30 => 171 | 31 => 186 | n => n, fun | 26 => 3 | 28 => 112 | 24 => 33 | 0 => 0 | 3 => 3 | 37 => 156 | 48 => 183 | 50 => 119 | 4 => 4 | 40 => 204 | 39 => 203 | 45 => 80 | 5 => 5 | 9 => 9 | 51 => 239 | 55 => 243 | 57 => 255 | 58 => 256 | 33 => 128 | n => n, fun | n => n⟩
theorem Tryz.sortedA : Go.Proofs.SlLaysZI.n6 Tryz.prog Tryz.sortedA_ren where
  mixed := by kernel_rfl
  f6 := ⟨ "slices.Sorted[int]", by decide, Tryz.func58.trans (congrArg some (by kernel_rfl))⟩
  f8 := ⟨ "slices.Collect[int]", by decide, Tryz.func111.trans (congrArg some (by kernel_rfl))⟩
  f11 := ⟨ "slices.AppendSeq[[]int,int]", by decide, Tryz.func153.trans (congrArg some (by kernel_rfl))⟩
  t0 := Tryz.underlying0
  a0 := Tryz.isAgg0
  z0 := Tryz.sizeOf0
  v0 := Tryz.zeroValue0
  t24 := Tryz.underlying33
  a24 := Tryz.isAgg33
  z24 := Tryz.sizeOf33
  v24 := Tryz.zeroValue33
  t26 := Tryz.underlying3
  a26 := Tryz.isAgg3
  z26 := Tryz.sizeOf3
  v26 := Tryz.zeroValue3
  t28 := Tryz.underlying112
  a28 := Tryz.isAgg112
  z28 := Tryz.sizeOf112
  v28 := Tryz.zeroValue112
  i26 := by kernel_rfl
def Tryz.sortA_ren : Go.Shelf.Ren := ⟨fun | 5 => 48 | 8 => 95 | 7 => 94 | 19 => 141 | 20 => 142 | 10 => 132 | 11 => 133 | 12 => 134 | 13 => 135 | 14 => 136 | 15 => 137 | 16 => 138 | 17 => 139 | 18 => 140 | 30 => 166 | 31 => 167 | 32 => 168 | 33 => 169 | 34 => 170 | 35 => 171 | 40 => 186 | n => n, fun | 23 => 33 | 25 => 3 | 3 => 3 | 32 => 156 | 22 => 33 | 0 => 0 | 44 => 183 | 46 => 119 | 4 => 4 | 36 => 204 | 35 => 203 | 41 => 80 | 5 => 5 | 9 => 9 | 53 => 239 | 57 => 243 | 63 => 255 | 64 => 256 | n => n, fun | n => n⟩
theorem Tryz.sortA : Go.Proofs.SlLaysM.n5 Tryz.prog Tryz.sortA_ren where
  mixed := by kernel_rfl
  f5 := ⟨ "slices.Sort[[]int,int]", by decide, Tryz.func48.trans (congrArg some (by kernel_rfl))⟩
  f7 := ⟨ "slices.pdqsortOrdered[int]", by decide, Tryz.func94.trans (congrArg some (by kernel_rfl))⟩
  f8 := Tryz.func95.trans (congrArg some (by kernel_rfl))
  f10 := ⟨ "slices.insertionSortOrdered[int]", by decide, Tryz.func132.trans (congrArg some (by kernel_rfl))⟩
  f11 := ⟨ "slices.heapSortOrdered[int]", by decide, Tryz.func133.trans (congrArg some (by kernel_rfl))⟩
  f12 := ⟨ "slices.breakPatternsOrdered[int]", by decide, Tryz.func134.trans (congrArg some (by kernel_rfl))⟩
  f13 := ⟨ "slices.choosePivotOrdered[int]", by decide, Tryz.func135.trans (congrArg some (by kernel_rfl))⟩
  f14 := ⟨ "slices.reverseRangeOrdered[int]", by decide, Tryz.func136.trans (congrArg some (by kernel_rfl))⟩
  f15 := ⟨ "slices.partialInsertionSortOrdered[int]", by decide, Tryz.func137.trans (congrArg some (by kernel_rfl))⟩
  f16 := ⟨ "cmp.Less[int]", by decide, Tryz.func138.trans (congrArg some (by kernel_rfl))⟩
  f17 := ⟨ "slices.partitionEqualOrdered[int]", by decide, Tryz.func139.trans (congrArg some (by kernel_rfl))⟩
  f18 := ⟨ "slices.partitionOrdered[int]", by decide, Tryz.func140.trans (congrArg some (by kernel_rfl))⟩
  f19 := Tryz.func141.trans (congrArg some (by kernel_rfl))
  f20 := Tryz.func142.trans (congrArg some (by kernel_rfl))
  f30 := ⟨ "slices.siftDownOrdered[int]", by decide, Tryz.func166.trans (congrArg some (by kernel_rfl))⟩
  f31 := Tryz.func167.trans (congrArg some (by kernel_rfl))
  f32 := Tryz.func168.trans (congrArg some (by kernel_rfl))
  f33 := ⟨ "slices.medianAdjacentOrdered[int]", by decide, Tryz.func169.trans (congrArg some (by kernel_rfl))⟩
  f34 := ⟨ "slices.medianOrdered[int]", by decide, Tryz.func170.trans (congrArg some (by kernel_rfl))⟩
  f35 := ⟨ "cmp.isNaN[int]", by decide, Tryz.func171.trans (congrArg some (by kernel_rfl))⟩
  f40 := ⟨ "slices.order2Ordered[int]", by decide, Tryz.func186.trans (congrArg some (by kernel_rfl))⟩
  t0 := Tryz.underlying0
  a0 := Tryz.isAgg0
  z0 := Tryz.sizeOf0
  v0 := Tryz.zeroValue0
  t3 := Tryz.underlying3
  a3 := Tryz.isAgg3
  z3 := Tryz.sizeOf3
  v3 := Tryz.zeroValue3
  t4 := Tryz.underlying4
  a4 := Tryz.isAgg4
  z4 := Tryz.sizeOf4
  v4 := Tryz.zeroValue4
  t5 := Tryz.underlying5
  a5 := Tryz.isAgg5
  z5 := Tryz.sizeOf5
  v5 := Tryz.zeroValue5
  t9 := Tryz.underlying9
  a9 := Tryz.isAgg9
  z9 := Tryz.sizeOf9
  v9 := Tryz.zeroValue9
  t22 := Tryz.underlying33
  a22 := Tryz.isAgg33
  z22 := Tryz.sizeOf33
  v22 := Tryz.zeroValue33
  t23 := Tryz.underlying33
  a23 := Tryz.isAgg33
  z23 := Tryz.sizeOf33
  v23 := Tryz.zeroValue33
  t25 := Tryz.underlying3
  a25 := Tryz.isAgg3
  z25 := Tryz.sizeOf3
  v25 := Tryz.zeroValue3
  t32 := Tryz.underlying156
  a32 := Tryz.isAgg156
  z32 := Tryz.sizeOf156
  v32 := Tryz.zeroValue156
  t35 := Tryz.underlying203
  a35 := Tryz.isAgg203
  z35 := Tryz.sizeOf203
  v35 := Tryz.zeroValue203
  t36 := Tryz.underlying204
  a36 := Tryz.isAgg204
  z36 := Tryz.sizeOf204
  v36 := Tryz.zeroValue204
  t41 := Tryz.underlying80
  a41 := Tryz.isAgg80
  z41 := Tryz.sizeOf80
  v41 := Tryz.zeroValue80
  t44 := Tryz.underlying183
  a44 := Tryz.isAgg183
  z44 := Tryz.sizeOf183
  v44 := Tryz.zeroValue183
  t46 := Tryz.underlying119
  a46 := Tryz.isAgg119
  z46 := Tryz.sizeOf119
  v46 := Tryz.zeroValue119
  t53 := Tryz.underlying239
  a53 := Tryz.isAgg239
  z53 := Tryz.sizeOf239
  v53 := Tryz.zeroValue239
  t57 := Tryz.underlying243
  a57 := Tryz.isAgg243
  z57 := Tryz.sizeOf243
  v57 := Tryz.zeroValue243
  t63 := Tryz.underlying255
  a63 := Tryz.isAgg255
  z63 := Tryz.sizeOf255
  v63 := Tryz.zeroValue255
  t64 := Tryz.underlying256
  a64 := Tryz.isAgg256
  z64 := Tryz.sizeOf256
  v64 := Tryz.zeroValue256

theorem Tryz.sortsA (m : Nat) : AnyZI.SortsIn Tryz.prog Tryz.sortedA_ren Fence.wide m :=
  ⟨fun blk off cap ss W hH hblk hsz => callsIn_wide.2 (AnyM.slices_Sort_int Tryz.sortA blk off cap ss W hH hblk hsz),
   fun p cap W => callsIn_wide.2 (AnyM.slices_Sort_int_none Tryz.sortA p cap W)⟩

set_option maxRecDepth 100000 in
/-- 'slices.Sorted' of 'maps.Keys' of a map, whatever the order in which the tape gives the keys. -/
theorem sorted_calls {H : Type} (bm b nn : Nat) (D0 : DataW H) (R : Value → Option (DataW H × List MemPlace)) (w : World) (hbm : bm < w.heap.size) (hm : w.cell? ⟨bm, 0, none⟩ = some (.map (some b)))
    (hown : w.ownsMap Tryz.prog 3 R b nn D0) (hmax : Maps.size D0 ≤ maxLen) (hbytes : Maps.size D0 * 8 ≤ 140737488355328) :
    Calls Tryz.prog 58 #[.func (.func 112) #[] #[.pointer (some ⟨bm, 0, none⟩)]] w fun e w' => ∃ (v : Value) (ss : List Int), e = .returned v ∧ ss.Perm (intKeys D0) ∧
      w'.ownsRow w.heap.size 3 1 v ss.length ((ss.mergeSort (fun x y => decide (x ≤ y))).map encZ) ∧ (v = .slice none 0 0 ↔ ss = []) ∧ Below w.heap.size w w' := by
  refine (callsIn_wide (n := 5)).1 ?_
  have hseq : SeqGives Fence.wide 2 Tryz.prog 112 #[.pointer (some ⟨bm, 0, none⟩)] encZ (fun ss => ss.Perm (intKeys D0)) (Maps.size D0) w :=
    AnyZI.keys_gives (ρ := Tryz.keysA_ren) { Tryz.keysA with } Fence.wide _ trivial rfl (by omega) bm b nn D0 _ hbm hm hown
  have cS := AnyZI.sorted_in Tryz.sortedA Fence.wide 5 trivial trivial trivial trivial rfl (by omega) (Tryz.sortsA _) (enters_of Tryz.func48 (by kernel_rfl) rfl) 112 #[.pointer (some ⟨bm, 0, none⟩)] trivial (enters_of Tryz.func112 (by kernel_rfl) rfl) _ _ hmax hbytes _ hseq
  exact cS

/-! As a contract -/

noncomputable section
open Go.Ev
/-- Keys that are ints, none twice; the entries' ages, none twice, below the clock. -/
def keysE (clock : Nat) : List (AV × AV × Nat) → Option (List Int)
  | [] => some []
  | (.int .i64 n, _, b) :: r => (match keysE clock r with
    | some l => bif !(ltI n (-9223372036854775808)) && !(ltI 9223372036854775807 n) && Nat.ble (Nat.succ b) clock && !(l.any (eqI n)) && !((r.map (·.2.2)).any (Nat.beq b)) then some (n :: l) else none
    | none => none)
  | _ => none
def insK (x : Int) : List Int → List Int
  | [] => [x]
  | y :: r => bif ltI y x then y :: insK x r else x :: y :: r
def sortK : List Int → List Int
  | [] => []
  | x :: r => insK x (sortK r)
def sortedR (h : Heap) : Option (List Int) → RV
  | some [] => .ok (.slice none 0 0 true) h
  | some l => bif Nat.ble l.length 1048576 then .ok (.slice (some (h.next, 0)) l.length l.length false) (h.new (.flat false 3 false ((sortK l).map fun n => .int .i64 n))) else .no [7821]
  | none => .no [7822]
def keysO : AObj → Option (List Int)
  | .map es clock => keysE clock es
  | _ => none
def sortedM (h : Heap) : Option AV → RV
  | some (.map (some r)) => sortedR h (keysO (h.obj r))
  | _ => .no [7823]
def H_sorted : HookF := fun args h => match args with
  | [.func (.func 112) [] [.ptr (some (i, 0))]] => sortedM h (load1 h i 0)
  | _ => .no [7824]
end

theorem insK_perm (x : Int) : ∀ l, (insK x l).Perm (x :: l)
  | [] => List.Perm.refl _
  | y :: r => by
    unfold insK
    cases Go.Ev.ltI y x with
    | true => exact ((insK_perm x r).cons y).trans (List.Perm.swap x y r)
    | false => exact List.Perm.refl _
theorem sortK_perm : ∀ l, (sortK l).Perm l
  | [] => List.Perm.refl _
  | x :: r => (insK_perm x _).trans ((sortK_perm r).cons x)
theorem insK_sorted (x : Int) : ∀ l : List Int, l.Pairwise (fun a b => a ≤ b) → (insK x l).Pairwise (fun a b => a ≤ b)
  | [], _ => by simp [insK]
  | y :: r, h => by
    have hy := List.pairwise_cons.1 h
    unfold insK
    rw [Go.Ev.ltI_eq]
    by_cases q : y < x
    · simp only [q, decide_true, cond_true]
      refine List.pairwise_cons.2 ⟨fun z hz => ?_, insK_sorted x r hy.2⟩
      rcases List.mem_cons.1 ((insK_perm x r).mem_iff.1 hz) with rfl | hz
      · omega
      · exact hy.1 z hz
    · simp only [q, decide_false, cond_false]
      refine List.pairwise_cons.2 ⟨fun z hz => ?_, h⟩
      rcases List.mem_cons.1 hz with rfl | hz
      · omega
      · have := hy.1 z hz; omega
theorem sortK_sorted : ∀ l : List Int, (sortK l).Pairwise (fun a b => a ≤ b)
  | [] => List.Pairwise.nil
  | x :: r => insK_sorted x _ (sortK_sorted r)
theorem mergeSort_sortK {l ss : List Int} (h : ss.Perm l) : ss.mergeSort (fun x y => decide (x ≤ y)) = sortK l := by
  have tr : ∀ a b c : Int, leI a b = true → leI b c = true → leI a c = true := fun a b c h1 h2 => by simp only [leI, decide_eq_true_eq] at *; exact Int.le_trans h1 h2
  have to : ∀ a b : Int, (leI a b || leI b a) = true := fun a b => by simp only [leI, Bool.or_eq_true, decide_eq_true_eq]; exact Int.le_total a b
  refine List.Perm.eq_of_pairwise (le := fun a b => leI a b = true) (fun a b _ _ h1 h2 => ?_) (List.pairwise_mergeSort tr to ss) ((sortK_sorted l).imp fun {a b} h => by simpa [leI] using h) (((List.mergeSort_perm ss leI).trans h).trans (sortK_perm l).symm)
  simp only [leI, decide_eq_true_eq] at h1 h2
  exact Int.le_antisymm h1 h2

theorem insert_perm {H : Type} (x : Lit × DataW H) : ∀ l, (DataW.insert x l).Perm (x :: l)
  | [] => List.Perm.refl _
  | y :: r => by
    unfold DataW.insert
    split
    · exact List.Perm.refl _
    · exact ((insert_perm x r).cons y).trans (List.Perm.swap x y r)
theorem foldr_insert_perm {H : Type} : ∀ l : List (Lit × DataW H), (l.foldr DataW.insert []).Perm l
  | [] => List.Perm.refl _
  | x :: r => (insert_perm x _).trans ((foldr_insert_perm r).cons x)

/-- What the abstract keys say of the entries. -/
theorem keysE_rel {ν : Go.Ev.V} {n clock : Nat} : ∀ {es : List (Go.Ev.AV × Go.Ev.AV × Nat)} {l : List MapEntry} {ks : List Int}, Go.Ev.entRel ν n es l → keysE clock es = some ks →
    l.map (·.key) = ks.map encZ ∧ (∀ k ∈ ks, -9223372036854775808 ≤ k ∧ k ≤ 9223372036854775807) ∧ ks.Nodup ∧ (∀ x ∈ l, x.born < clock) ∧ (l.map (·.born)).Nodup ∧ l.map (·.born) = es.map (·.2.2)
  | [], l, ks, r, e => by
    cases r
    simp only [keysE, Option.some.injEq] at e
    subst e
    exact ⟨rfl, by simp, List.nodup_nil, by simp, List.nodup_nil, rfl⟩
  | (k, v, b) :: es, l, ks, ⟨x, s, hl, rk, rv, rb, rs⟩, e => by
    subst hl
    have hkk : ∃ m, k = .int .i64 m := by
      cases k with
      | int kk m => cases kk <;> first | exact ⟨m, rfl⟩ | (simp [keysE] at e)
      | _ => simp [keysE] at e
    obtain ⟨m, rfl⟩ := hkk
    simp only [keysE] at e
    cases hk : keysE clock es with
    | none => simp [hk] at e
    | some ks' =>
      simp only [hk] at e
      obtain ⟨hb, e⟩ := Go.Ev.cond_some e
      subst e
      obtain ⟨h1, h2, h3, h4, h5, h6⟩ := keysE_rel rs hk
      simp only [Bool.and_eq_true, Bool.not_eq_true', Go.Ev.ltI_eq, decide_eq_false_iff_not, Int.not_lt, List.any_eq_false, Go.Ev.eqI_eq, beq_iff_eq] at hb
      obtain ⟨⟨⟨⟨b1, b2⟩, b3⟩, b4⟩, b5⟩ := hb
      have b3 := Nat.le_of_ble_eq_true b3
      have hkey : x.key = encZ m := rk
      refine ⟨by simp [hkey, h1], ?_, ?_, ?_, ?_, by simp [rb, h6]⟩
      · intro k hk
        rcases List.mem_cons.1 hk with rfl | hk
        · exact ⟨b1, b2⟩
        · exact h2 k hk
      · exact List.nodup_cons.2 ⟨fun q => b4 m q rfl, h3⟩
      · intro y hy
        rcases List.mem_cons.1 hy with rfl | hy
        · rw [rb]; exact b3
        · exact h4 y hy
      · rw [List.map_cons]
        refine List.nodup_cons.2 ⟨fun q => ?_, h5⟩
        rw [h6, rb] at q
        exact b5 b q (Nat.beq_refl b)

theorem map_keys (g : MapEntry → Lit) : ∀ (l : List MapEntry) (ks : List Int), l.map (·.key) = ks.map encZ → (∀ x ∈ l, ∀ k, x.key = encZ k → g x = .int .i64 k) → l.map (fun x => Go.intOf (g x)) = ks
  | [], [], _, _ => rfl
  | [], _ :: _, h, _ => by simp at h
  | _ :: _, [], h, _ => by simp at h
  | x :: l, k :: ks, h, hg => by
    simp only [List.map_cons, List.cons.injEq] at h
    simp only [List.map_cons, List.cons.injEq]
    exact ⟨by rw [hg x (by simp) k h.1]; rfl, map_keys g l ks h.2 fun y hy => hg y (by simp [hy])⟩
theorem rd_const {v : Value} : (fun _ : Value => some ((.nil : DataW Unit), ([] : List MemPlace))) v = some (.nil, []) := rfl

set_option maxRecDepth 100000 in
theorem sorted_ok : Go.Ev.HookOK Tryz.prog 58 H_sorted := by
  intro args h v h' hg ν w vs I r
  unfold H_sorted at hg
  split at hg
  · rename_i i
    cases hl : Go.Ev.load1 h i 0 with
    | none => simp [hl, sortedM] at hg
    | some mv =>
      rw [hl] at hg
      unfold sortedM at hg
      split at hg
      · rename_i r' hmv
        cases hmv
        cases ho : h.obj r' with
        | map es clock =>
          rw [ho] at hg
          simp only [keysO] at hg
          cases hk : keysE clock es with
          | none => simp [hk, sortedR] at hg
          | some ks =>
            rw [hk] at hg
            obtain ⟨vx, s, rfl, rx, rfl⟩ := r
            obtain ⟨f', c', rfl, rf, rc⟩ := rx
            have hf' : f' = #[] := by
              have : f'.toList = [] := rf
              simpa using this
            obtain ⟨pv, s2, hc2, rp, hs2⟩ := rc
            have hc' : c' = #[pv] := by
              rw [show s2 = [] from hs2] at hc2
              apply Array.ext'
              simpa using hc2
            subst hf'
            subst hc'
            obtain ⟨hhas, rfl⟩ := rp
            obtain ⟨u, ru, hcell⟩ := Go.Ev.load1_run (P := Tryz.prog) I hl
            obtain ⟨_, rfl⟩ := ru
            obtain ⟨L, hmap, re⟩ := Go.Ev.map_obj I ho
            obtain ⟨k1, k2, k3, k4, k5, -⟩ := keysE_rel re hk
            have hbm : ν.blk i < w.heap.size := by
              rcases Nat.lt_or_ge (ν.blk i) w.heap.size with q | q
              · exact q
              · simp [World.cell?, Array.getElem?_eq_none q] at hcell
            let R : Value → Option (DataW Unit × List MemPlace) := fun _ => some (.nil, [])
            have hkeyOf : ∀ k ∈ ks, keyOf Tryz.prog 3 (encZ k) = some (.int .i64 k) := fun k hk => by
              have hb := k2 k hk
              have hwf : (Lit.int .i64 k).wf = true := by simp [Lit.wf, IntKind.min, IntKind.max, IntKind.bits, IntKind.signed]; omega
              simp [keyOf, mapKey, Tryz.underlying3, hwf]
            have hmem : ∀ x ∈ L.toList, ∃ k ∈ ks, x.key = encZ k := fun x hx => by
              have : x.key ∈ ks.map encZ := by rw [← k1]; exact List.mem_map_of_mem hx
              obtain ⟨k, hk, e⟩ := List.mem_map.1 this
              exact ⟨k, hk, e.symm⟩
            have hrd : ∀ x ∈ L.toList, ∃ k ∈ ks, x.key = encZ k ∧ WideElems.rd Tryz.prog 3 R x = some (.int .i64 k, .nil) := fun x hx => by
              obtain ⟨k, hk, e⟩ := hmem x hx
              exact ⟨k, hk, e, by simp [WideElems.rd, e, hkeyOf k hk, R]⟩
            have hlen : L.size = ks.length := by have := congrArg List.length k1; simpa using this
            have hbig : ks.length ≤ 1048576 := by
              unfold sortedR at hg
              split at hg
              · simp_all
              · rename_i l hne hq
                simp only [Option.some.injEq] at hq
                subst hq
                cases hb : Nat.ble ks.length 1048576 with
                | true => exact Nat.le_of_ble_eq_true hb
                | false => rw [hb] at hg; simp at hg
              · simp at hg
            have hfit : WideElems.Fit Tryz.prog 3 R L clock := ⟨by unfold maxLen; omega, ⟨k4, k5, by
                rw [k1]
                exact List.pairwise_map.2 (k3.imp fun {a b} ne e => ne (encZ_inj e))⟩, fun x hx => by
                obtain ⟨k, _, _, e⟩ := hrd x hx
                exact ⟨_, e⟩⟩
            have hD : (Go.intKeys (.map ((L.toList.map (WideElems.rg Tryz.prog 3 R)).foldr DataW.insert []) : DataW Unit)).Perm ks := by
              have e1 := map_keys (fun x => (WideElems.rg Tryz.prog 3 R x).1) L.toList ks k1 (fun x hx k hxk => by
                obtain ⟨k', _, e, q⟩ := hrd x hx
                rw [WideElems.rg_of q]
                rw [hxk] at e
                rw [encZ_inj e])
              have e2 := (foldr_insert_perm (L.toList.map (WideElems.rg Tryz.prog 3 R))).map (fun p : Lit × DataW Unit => Go.intOf p.1)
              rw [List.map_map] at e2
              rw [show ((fun p : Lit × DataW Unit => Go.intOf p.1) ∘ WideElems.rg Tryz.prog 3 R) = (fun x => Go.intOf (WideElems.rg Tryz.prog 3 R x).1) from rfl, e1] at e2
              exact e2
            have hsz : Maps.size (.map ((L.toList.map (WideElems.rg Tryz.prog 3 R)).foldr DataW.insert []) : DataW Unit) = L.size := by
              show ((L.toList.map (WideElems.rg Tryz.prog 3 R)).foldr DataW.insert []).length = _
              rw [(foldr_insert_perm _).length_eq]; simp
            have hw := sorted_calls (ν.blk i) (ν.blk r') L.size (.map ((L.toList.map (WideElems.rg Tryz.prog 3 R)).foldr DataW.insert []) : DataW Unit) R w hbm hcell ⟨L, clock, hmap, hfit, Nat.le_refl _, rfl⟩ (by rw [hsz]; unfold maxLen; omega) (by rw [hsz]; omega)
            have hcf : (callFunc 58 (List.toArray [Value.func (.func 112) #[] #[.pointer (some ⟨ν.blk i, 0, none⟩)]])).run Tryz.prog w = .ok (.enter 58 #[Value.func (.func 112) #[] #[.pointer (some ⟨ν.blk i, 0, none⟩)]]) w :=
              callFunc_body Tryz.func58 (by kernel_rfl) rfl
            rw [hcf]
            refine hw.mono ?_
            rintro e w' ⟨v', ss, rfl, hp, hrow, hnil, hb⟩
            have hpk := hp.trans hD
            have hlenk := hpk.length_eq
            unfold sortedR at hg
            split at hg
            · rename_i hq
              simp only [Option.some.injEq] at hq
              subst hq
              have hss : ss = [] := by simpa using hpk
              obtain ⟨rfl, rfl⟩ := RV_inj hg
              refine ⟨_, ν, rfl, Go.Ev.Step.quiet I hb.size hb.block hb.os hb.tape hb.output, ?_⟩
              rw [hnil.2 hss]
              exact ⟨rfl, rfl⟩
            · rename_i l hne hq
              simp only [Option.some.injEq] at hq
              subst hq
              cases hbb : Nat.ble ks.length 1048576 with
              | false => rw [hbb] at hg; simp at hg
              | true =>
                rw [hbb] at hg
                obtain ⟨rfl, rfl⟩ := RV_inj hg
                rcases hrow.2 with ⟨q, _⟩ | ⟨g, cap, cur, rfl, hbase, hgb, c1, c2, c3, c4⟩
                · have hss := hnil.1 q
                  rw [hss] at hlenk
                  exact absurd (List.length_eq_zero_iff.1 hlenk.symm) (fun q => hne (by rw [q]))
                · rw [mergeSort_sortK hpk, hlenk] at c4
                  rw [hlenk] at c1
                  have hkl := (sortK_perm ks).length_eq
                  have st := Go.Ev.Step.newIn (P := Tryz.prog) I hb.size hb.block hb.os hb.tape hb.output hbase (.flat false 3 false ((sortK ks).map fun n => .int .i64 n)) cur.size 1 hgb
                    ⟨cur, (0, 0), rfl, fun j a hj => by
                        simp only [List.getElem?_map, Option.map_eq_some_iff] at hj
                        obtain ⟨z, hz, rfl⟩ := hj
                        have hjl := (List.getElem?_eq_some_iff.1 hz).1
                        refine ⟨.int .i64 z, ?_, rfl⟩
                        have : (cur.toList.take (ks.length * 1))[j]? = some (.int .i64 z) := by rw [c4, List.getElem?_map, hz]; rfl
                        rw [List.getElem?_take, if_pos (by omega)] at this
                        simpa using this,
                      fun q => by simp at q, by simp; omega, by simp, by rw [Go.Ev.V.upd_esz]; kernel_rfl, .inl rfl, fun _ => rfl⟩
                  refine ⟨_, _, rfl, st, st.has_new, cap, ?_, fun q => by simp at q, fun _ => ⟨c1, fun _ => ?_⟩⟩
                  · rw [Go.Ev.V.upd_blk, hlenk]
                  · rw [Go.Ev.V.upd_esz, Go.Ev.V.upd_cap]; omega
            · simp at hg
        | _ => rw [ho] at hg; simp [keysO, sortedR] at hg
      · simp at hg
  · simp at hg
end Go.Proofs
