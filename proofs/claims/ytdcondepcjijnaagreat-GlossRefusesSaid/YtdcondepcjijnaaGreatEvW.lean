/-
  CONTRACTS FOR THE EVALUATOR, second text: tape.Sum.
-/
import Derived.Test.YtdcondepcjijnaaGreatEvV
namespace Go.Proofs
open Go.RowKit

def crc1 (c : Nat) : Nat := if c % 2 = 1 then c / 2 ^^^ 3988292384 else c / 2
def crcK (c : Nat) : Nat → Nat
  | 0 => c
  | k + 1 => crc1 (crcK c k)
def crcL (c : Nat) : List Nat → Nat
  | [] => c
  | x :: l => crcL (crcK (c ^^^ x) 8) l

theorem xor_nat (k : IntKind) (j : Nat) (hj : j ≤ k.bits) (hk : ∀ n : Int, 0 ≤ n → n < 2 ^ j → k.wrap n = n) (a b : Nat) (ha : a < 2 ^ j) (hb : b < 2 ^ j) : bits .xor k a b = ((a ^^^ b : Nat) : Int) := by
  have hp : 2 ^ j ≤ 2 ^ k.bits := Nat.pow_le_pow_right (by decide) hj
  have ha' : a % 2 ^ k.bits = a := Nat.mod_eq_of_lt (Nat.lt_of_lt_of_le ha hp)
  have hb' : b % 2 ^ k.bits = b := Nat.mod_eq_of_lt (Nat.lt_of_lt_of_le hb hp)
  have cast : ∀ n : Nat, n < 2 ^ j → ((n : Nat) : Int) < 2 ^ j := fun n h => by exact_mod_cast h
  simp only [bits, BitVec.ofInt_natCast, BitVec.toNat_xor, BitVec.toNat_ofNat, ha', hb']
  exact hk _ (Int.natCast_nonneg _) (cast _ (Nat.xor_lt_two_pow ha hb))
theorem xor32 (a b : Nat) (ha : a < 4294967296) (hb : b < 4294967296) : bits .xor .u32 a b = ((a ^^^ b : Nat) : Int) :=
  xor_nat .u32 32 (Nat.le_refl _) (fun n h0 h1 => by rw [IntKind.wrap_u32]; omega) a b ha hb
theorem and32_one (a : Nat) (ha : a < 4294967296) : bits .and .u32 a 1 = ((a % 2 : Nat) : Int) := by
  have h := bits_mask .u32 32 (Nat.le_refl _) (fun n h0 h1 => by rw [IntKind.wrap_u32]; omega) 1 (by omega) a (by omega) (by omega)
  simpa using h
theorem crc1_lt {c : Nat} (h : c < 4294967296) : crc1 c < 4294967296 := by
  unfold crc1
  split
  · exact Nat.xor_lt_two_pow (n := 32) (by omega) (by omega)
  · omega
theorem crcK_lt {c : Nat} (h : c < 4294967296) : ∀ k, crcK c k < 4294967296
  | 0 => h
  | k + 1 => crc1_lt (crcK_lt h k)
theorem crcL_lt : ∀ (l : List Nat) {c : Nat}, c < 4294967296 → (∀ x ∈ l, x < 256) → crcL c l < 4294967296
  | [], _, h, _ => h
  | x :: l, c, h, hl => crcL_lt l (crcK_lt (Nat.xor_lt_two_pow (n := 32) h (by have := hl x (by simp); omega)) 8) fun y hy => hl y (by simp [hy])

set_option maxHeartbeats 1000000 in
theorem sum_walk (b off len cap : Nat) (zs : List Nat) (w : World) (hz : zs.length = len) (hbig : len ≤ 9223372036854775807) (hb : ∀ x ∈ zs, x < 256) (hc : ∀ j, j < zs.length → w.cell? ⟨b, off + j, none⟩ = some (.int .u8 (zs.getD j 0 : Nat))) :
    Calls Tryz.prog 156 #[.slice (some ⟨b, off, none⟩) len cap] w fun e w' => e = .returned (.int .u32 (crcL 4294967295 zs ^^^ 4294967295 : Nat)) ∧ w' = w := by
  go_enter Tryz.func156, Tryz.ntmps156
  go_wp2
  go_loop [3, 9] (fun c i => ∃ (k x : Nat), k ≤ len ∧ i = .int .i64 k ∧ x < 4294967296 ∧ c = .int .u32 x ∧ crcL x (zs.drop k) = crcL 4294967295 zs) (fun _ i => len - (intOf i).toNat)
  case atStart => exact ⟨0, 4294967295, Nat.zero_le _, rfl, by omega, rfl, rfl⟩
  case round =>
    obtain ⟨k, x, hk, rfl, hx, rfl, hcrc⟩ := hrel
    have hcell : k < len → w.cell? ⟨b, off + k, none⟩ = some (.int .u8 (zs.getD k 0 : Nat)) := fun _ => hc k (by omega)
    go_wp2
    · have hlt : k < len := by assumption
      have hkl : k < zs.length := by omega
      have hzk : zs[k] < 256 := hb _ (List.getElem_mem hkl)
      have e0 : bits .xor .u32 (x : Int) ((zs[k] : Int) % 4294967296) = ((x ^^^ zs[k] : Nat) : Int) := by
        rw [show ((zs[k] : Int) % 4294967296) = (zs[k] : Nat) by omega]
        exact xor32 _ _ hx (by omega)
      have hy : x ^^^ zs[k] < 4294967296 := Nat.xor_lt_two_pow (n := 32) hx (by omega)
      rw [e0]
      generalize hyy : x ^^^ zs[k] = y at hy
      go_loop [3, 17] (fun c i => ∃ j : Nat, j ≤ 8 ∧ i = .int .i64 j ∧ c = .int .u32 (crcK y j : Nat)) (fun _ i => 8 - (intOf i).toNat)
      case atStart => exact ⟨0, by omega, rfl, rfl⟩
      case round =>
        obtain ⟨j, hj, rfl, rfl⟩ := hrel
        have hcj := crcK_lt hy j
        have ea := and32_one _ hcj
        go_wp2
        · have hq : (((crcK y j : Nat) : Int) % 2 == 1) = true := by assumption
          have hlt8 : (j : Int) < 8 := by assumption
          have hodd : crcK y j % 2 = 1 := by have := eq_of_beq hq; omega
          have ex : bits .xor .u32 (((crcK y j : Nat) : Int) / 2) 3988292384 = ((crcK y (j + 1) : Nat) : Int) := by
            have : ((crcK y j : Nat) : Int) / 2 = ((crcK y j / 2 : Nat) : Int) := by omega
            rw [this]
            have := xor32 (crcK y j / 2) 3988292384 (by omega) (by omega)
            rw [show crcK y (j + 1) = crc1 (crcK y j) from rfl, crc1, if_pos hodd]
            exact this
          rw [ex]
          go_round
          case rel => exact ⟨j + 1, by omega, by go_num, rfl⟩
          case measure => simp only [intOf]; omega
        · have hq : (((crcK y j : Nat) : Int) % 2 == 1) = false := by assumption
          have hlt8 : (j : Int) < 8 := by assumption
          have hev : ¬ crcK y j % 2 = 1 := by intro e; have := ne_of_beq_false hq; omega
          have ex : ((crcK y j : Nat) : Int) / 2 = ((crcK y (j + 1) : Nat) : Int) := by
            rw [show crcK y (j + 1) = crc1 (crcK y j) from rfl, crc1, if_neg hev]
            omega
          rw [ex]
          go_round
          case rel => exact ⟨j + 1, by omega, by go_num, rfl⟩
          case measure => simp only [intOf]; omega
        · have hge : (8 : Int) ≤ j := by assumption
          have : j = 8 := by omega
          subst this
          go_round
          case rel =>
            refine ⟨k + 1, crcK y 8, by omega, by go_num, hcj, rfl, ?_⟩
            rw [← hcrc, ← hyy, List.drop_eq_getElem_cons hkl]
            rfl
          case measure => simp only [intOf]; omega
    · have hge : ¬ k < len := by assumption
      have : k = len := by omega
      subst this
      have hd : zs.drop k = [] := List.drop_eq_nil_iff.2 (by omega)
      rw [hd] at hcrc
      have hx' : x = crcL 4294967295 zs := hcrc
      have ex : bits .xor .u32 IntKind.u32.max (x : Int) = ((crcL 4294967295 zs ^^^ 4294967295 : Nat) : Int) := by
        rw [← hx', Nat.xor_comm]
        exact xor32 4294967295 x (by omega) hx
      rw [ex]
      go_ret
      exact ⟨rfl, rfl⟩
/-! As a contract -/

noncomputable section
open Go.Ev
def crcE (c : Nat) : Nat := bif Nat.beq (Nat.land c 1) 1 then Nat.xor (Nat.div c 2) 3988292384 else Nat.div c 2
def crcE8 (c : Nat) : Nat := crcE (crcE (crcE (crcE (crcE (crcE (crcE (crcE c)))))))
def foldF (f : Nat → Nat → Nat) : List Nat → Nat → Nat
  | [], c => c
  | x :: l, c => bif Nat.beq (f c x) 0 then foldF f l 0 else foldF f l (f c x)
def crcF (c x : Nat) : Nat := crcE8 (Nat.xor c x)
def crcEL (l : List Nat) (c : Nat) : Nat := foldF crcF l c
def sumR (h : Heap) : Option (List Nat) → RV
  | some l => .ok (.int .u32 (.ofNat (Nat.xor (crcEL l 4294967295) 4294967295))) h
  | none => .no [7811]
def H_sum : HookF := fun args h => match args with
  | [.slice (some a) n _ _] => bif Nat.ble n 1099511627776 then sumR h (bytesBind (loadN h a.1 a.2 n)) else .no [7812]
  | _ => .no [7813]
end

theorem crcE_eq (c : Nat) : Go.Proofs.crcE c = crc1 c := by
  unfold crcE crc1
  have e1 : Nat.land c 1 = c % 2 := Nat.and_one_is_mod c
  have e2 : Nat.div c 2 = c / 2 := rfl
  rw [e1, e2]
  by_cases h : c % 2 = 1
  · rw [if_pos h, h]; rfl
  · rw [if_neg h]
    have : c % 2 = 0 := by omega
    rw [this]; rfl
theorem crcE8_eq (y : Nat) : crcE8 y = crcK y 8 := by
  have h : ∀ k, crcK y (k + 1) = crc1 (crcK y k) := fun _ => rfl
  unfold crcE8
  simp only [crcE_eq]
  rw [h 7, h 6, h 5, h 4, h 3, h 2, h 1, h 0]
  rfl
theorem foldF_eq (f : Nat → Nat → Nat) : ∀ (l : List Nat) (c : Nat), foldF f l c = l.foldl f c
  | [], c => rfl
  | x :: l, c => by
    simp only [foldF, List.foldl_cons]
    cases hb : Nat.beq (f c x) 0 with
    | true => rw [cond_true, foldF_eq f l, Nat.eq_of_beq_eq_true hb]
    | false => rw [cond_false, foldF_eq f l]
theorem crcF_eq (c x : Nat) : crcF c x = crcK (c ^^^ x) 8 := crcE8_eq (c ^^^ x)
theorem crcL_fold : ∀ (l : List Nat) (c : Nat), l.foldl crcF c = crcL c l
  | [], c => rfl
  | x :: l, c => by rw [List.foldl_cons, crcF_eq, crcL_fold l]; rfl
theorem crcEL_eq (l : List Nat) (c : Nat) : crcEL l c = crcL c l := by rw [crcEL, foldF_eq, crcL_fold]
theorem callFunc_body {P : Program} {f : FuncId} {fn : Func} {c : Code} {args : Array Value} {w : World} (hf : P.funcs[f]? = some fn) (hn : (fn.name == "runtime.NumGoroutine") = false) (hb : fn.body = some c) :
    (callFunc f args).run P w = .ok (.enter f args) w := by
  have hn' : ¬ fn.name = "runtime.NumGoroutine" := by simpa using hn
  simp [callFunc, hf, hn', hb]
theorem RV_inj {v v' : Go.Ev.AV} {h h' : Go.Ev.Heap} (e : Go.Ev.RV.ok v h = .ok v' h') : v = v' ∧ h = h' := by
  injection e with a b
  exact ⟨a, b⟩
set_option maxRecDepth 100000 in
theorem sum_ok : Go.Ev.HookOK Tryz.prog 156 H_sum := by
  intro args h v h' hg ν w vs I r
  unfold H_sum at hg
  split at hg
  · rename_i a n k ex
    cases hn : Nat.ble n 1099511627776 with
    | false => rw [hn] at hg; simp at hg
    | true =>
      rw [hn] at hg
      simp only [cond_true] at hg
      have hn := Nat.le_of_ble_eq_true hn
      cases hl : Go.Ev.loadN h a.1 a.2 n with
      | none => simp [hl, Go.Ev.bytesBind, sumR] at hg
      | some l =>
        simp only [hl, Go.Ev.bytesBind] at hg
        cases hb : Go.Ev.bytesOfAV l with
        | none => simp [hb, sumR] at hg
        | some bs =>
          simp only [hb, sumR] at hg
          obtain ⟨hz, e2⟩ := RV_inj hg
          subst e2
          obtain ⟨vx, s, rfl, rx, rfl⟩ := r
          obtain ⟨_, k', rfl, _⟩ := rx
          obtain ⟨hln, s', rs, hc⟩ := Go.Ev.loadN_rel (P := Tryz.prog) I hl
          obtain ⟨b, rfl, rfl⟩ := Go.Ev.bytesOfAV_rel rs hb
          have hlen : (b.map UInt8.toNat).length = n := by have := Go.Ev.relL_len rs; simp at this ⊢; omega
          have hw := sum_walk (ν.blk a.1) a.2 n k' (b.map UInt8.toNat) w hlen (by omega) (fun x hx => by
              obtain ⟨y, _, rfl⟩ := List.mem_map.1 hx
              exact y.toNat_lt) (fun j hj => by
              have hj' : j < b.length := by simpa using hj
              have := hc j (.int .u8 (b[j].toNat : Nat)) (by simp [hj'])
              rw [this]
              simp [hj'])
          have hcf : (callFunc 156 (List.toArray [Value.slice (some ⟨ν.blk a.1, a.2, none⟩) n k'])).run Tryz.prog w = .ok (.enter 156 #[.slice (some ⟨ν.blk a.1, a.2, none⟩) n k']) w := by
            exact callFunc_body Tryz.func156 (by kernel_rfl) rfl
          rw [hcf]
          refine hw.mono ?_
          rintro e w' ⟨rfl, rfl⟩
          refine ⟨_, ν, rfl, Go.Ev.Step.refl I, ?_⟩
          rw [← hz, crcEL_eq]
          rfl
  · simp at hg

end Go.Proofs
