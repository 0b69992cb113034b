/-
  The walks of the document's own sum and bytes, and of the law's 'awake'.
-/
import Derived.Test.YtmaaljfcnnlnpaaCrcWalk4
namespace Go.Proofs.Ytmaaljfcnnlnpaa
open Go.RowKit

theorem sum_example : CrcP.sum [49, 50, 51, 52, 53, 54, 55, 56, 57] = 3808858755 := by decide +kernel

theorem awake02 (w : World) : Calls Try.prog 28 #[] w fun e w' => e = .returned (.bool true) ∧ Below w.heap.size w w' := by
  have hc : (((CrcP.sum [49, 50, 51, 52, 53, 54, 55, 56, 57] : Nat) : Int) == 3808858755) = true := by rw [sum_example]; rfl
  go_enter Try.func28, Try.ntmps28
  go_wp2_with (go_at_call 29; refine (sum_any _ (by decide) _).mono ?_; rintro e w1 ⟨rfl, hb⟩)
  go_ret
  exact ⟨rfl, hb⟩

/-- One bit's step of the document's. -/
theorem ref_bit (r b : Nat) : CrcP.turn (r ^^^ (b % 2)) = if (r % 2 + b % 2) % 2 = 1 then (r / 2) ^^^ 2197175160 else r / 2 := by
  unfold CrcP.turn
  rw [CrcP.xor_mod2, CrcP.xor_div2, show b % 2 / 2 = 0 by omega, Nat.xor_zero]
  have e : (r + b % 2) % 2 = (r % 2 + b % 2) % 2 := by omega
  rw [e]; rfl

/-- r behind m bits of the byte b. -/
def rbits (r b m : Nat) : Nat := CrcP.turnN m (r ^^^ (b % 2 ^ m))

theorem mod_succ_xor (b m : Nat) : b % 2 ^ (m + 1) = (b % 2 ^ m) ^^^ (2 ^ m * (b / 2 ^ m % 2)) := by
  apply Nat.eq_of_testBit_eq
  intro i
  rw [Nat.testBit_xor, Nat.testBit_mod_two_pow, Nat.testBit_mod_two_pow, Nat.mul_comm, Nat.testBit_mul_two_pow]
  rcases Nat.lt_trichotomy i m with h | h | h
  · have h1 : i < m + 1 := by omega
    have h2 : ¬ m ≤ i := by omega
    simp [h, h1, h2]
  · subst h
    have e : (b / 2 ^ i % 2).testBit 0 = b.testBit i := by
      have := Nat.testBit_div_two_pow (n := i) b 0
      rw [Nat.zero_add] at this
      rw [← this, Nat.testBit_zero, Nat.testBit_zero]
      congr 1
      simp
    simp [e]
  · have h1 : ¬ i < m := by omega
    have h2 : ¬ i < m + 1 := by omega
    have h3 : m ≤ i := by omega
    have e : (b / 2 ^ m % 2).testBit (i - m) = false := by
      apply Nat.testBit_lt_two_pow
      have : b / 2 ^ m % 2 < 2 := Nat.mod_lt _ (by decide)
      have : 2 ^ 1 ≤ 2 ^ (i - m) := Nat.pow_le_pow_right (by decide) (by omega)
      omega
    simp [h1, h2, h3, e]

theorem rbits_succ (r b m : Nat) : rbits r b (m + 1) = CrcP.turn (rbits r b m ^^^ (b / 2 ^ m % 2)) := by
  unfold rbits
  rw [CrcP.turnN_add m 1, mod_succ_xor, ← Nat.xor_assoc, CrcP.turnN_xor, CrcP.turnN_shift]
  rfl

theorem rbits_8 (r b : Nat) (hb : b < 256) : rbits r b 8 = CrcP.step r b := by
  unfold rbits
  rw [CrcP.step_eq r b hb, Nat.mod_eq_of_lt (by simpa using hb)]

theorem rbits_lt (r b m : Nat) (hr : r < 4294967296) (hb : b < 256) : rbits r b m < 4294967296 :=
  CrcP.turnN_lt m _ (Nat.xor_lt_two_pow (n := 32) hr (by have := Nat.mod_le b (2 ^ m); omega))

theorem M_sub (r : Nat) (h : r < 4294967296) : 4294967295 - r = r ^^^ 4294967295 := by
  apply Nat.eq_of_testBit_eq
  intro i
  have h1 := Nat.testBit_two_pow_sub_succ (x := r) (n := 32) h i
  rw [show 2 ^ 32 - (r + 1) = 4294967295 - r by omega] at h1
  rw [h1, Nat.testBit_xor]
  have h2 : (4294967295 : Nat).testBit i = decide (i < 32) := Nat.testBit_two_pow_sub_one 32 i
  rw [h2]
  by_cases hi : i < 32
  · simp [hi]
  · have : r.testBit i = false := Nat.testBit_lt_two_pow (Nat.lt_of_lt_of_le h (by rw [show 4294967296 = 2 ^ 32 from rfl]; exact Nat.pow_le_pow_right (by decide) (by omega)))
    simp [hi, this]

set_option maxRecDepth 100000 in
set_option maxHeartbeats 400000 in
theorem refsum_any (s : ByteArray) (hs : s.size ≤ maxLen) (w : World) :
    Calls Try.prog 32 #[.string s] w fun e w' => e = .returned (.int .u32 (CrcP.sum s.data.toList : Nat)) ∧ w = w' := by
  unfold maxLen at hs
  go_enter Try.func32, Try.ntmps32
  go_wp2
  go_loop [3, 4, 5, 6, 7, 8, 9, 10, 11, 12, 13, 14, 15, 16, 17, 18, 19, 20, 21, 22, 23, 24, 25, 26, 27, 28, 29, 30, 31, 32, 33, 34, 35] (fun a3 a4 _ _ _ _ _ _ _ _ _ _ _ _ _ _ _ _ _ _ _ _ _ _ _ _ _ _ _ _ _ _ _ => ∃ k : Nat, k ≤ s.size ∧ a4 = .int .i64 k ∧ a3 = .int .u32 (CrcP.run 4294967295 (s.data.toList.take k) : Nat)) (fun _ a4 _ _ _ _ _ _ _ _ _ _ _ _ _ _ _ _ _ _ _ _ _ _ _ _ _ _ _ _ _ _ _ => s.size - (intOf a4).toNat)
  case atStart => exact ⟨0, by omega, rfl, rfl⟩
  case round =>
    obtain ⟨k, hk, rfl, rfl⟩ := hrel
    have hrl : CrcP.run 4294967295 (s.data.toList.take k) < 4294967296 := CrcP.run_lt _ _ (by decide)
    by_cases hlt : k < s.size
    · have Hs := Lib.hid (run_snoc 4294967295 s k hlt)
      generalize CrcP.run 4294967295 (s.data.toList.take k) = r0 at hrl Hs
      have hb : (s[k]).toNat < 256 := (s[k]).toNat_lt
      go_wp2
      try rw [show decide ((k : Int) < (s.size : Int)) = true by simp; omega]
      go_loop [3, 5, 6, 7, 18, 19, 20, 21, 22, 23, 24, 25, 26, 27, 28, 29, 30, 31, 32, 33, 34, 35] (fun a3 a5 a6 _ _ _ _ _ _ _ _ _ _ _ _ _ _ _ _ _ _ _ => ∃ m : Nat, m ≤ 8 ∧ a6 = .int .i64 m ∧ a5 = .int .u32 ((s[k]).toNat / 2 ^ m : Nat) ∧ a3 = .int .u32 (rbits r0 (s[k]).toNat m : Nat)) (fun _ _ a6 _ _ _ _ _ _ _ _ _ _ _ _ _ _ _ _ _ _ _ => 8 - (intOf a6).toNat)
      case atStart => exact ⟨0, by omega, rfl, by simp, by simp [rbits, CrcP.turnN, Nat.mod_one]⟩
      case round =>
        obtain ⟨m, hm, rfl, rfl, rfl⟩ := hrel
        by_cases hlm : m < 8
        · have hR := rbits_lt r0 (s[k]).toNat m hrl hb
          have hB : (s[k]).toNat / 2 ^ m < 256 := Nat.lt_of_le_of_lt (Nat.div_le_self _ _) hb
          have HR := Lib.hid (rbits_succ r0 (s[k]).toNat m)
          have HB := Lib.hid (show (s[k]).toNat / 2 ^ (m + 1) = (s[k]).toNat / 2 ^ m / 2 by rw [Nat.pow_succ, Nat.div_div_eq_div_mul])
          generalize rbits r0 (s[k]).toNat m = R at *
          generalize (s[k]).toNat / 2 ^ m = Bm at *
          have HT := Lib.hid (ref_bit R Bm)
          by_cases h : (R % 2 + Bm % 2) % 2 = 1
          · have ht : ((((R : Int) % 2 + (Bm : Int) % 2) % 2) == 1) = true := by simp; omega
            have hx : bits BinOp.xor IntKind.u32 ((R : Int) / 2) 2197175160 = (((R / 2) ^^^ 2197175160 : Nat) : Int) := u32_xor_nat (R / 2) 2197175160 (by omega) (by decide)
            go_wp2
            go_round
            case rel => exact ⟨m + 1, by omega, by go_num, by rw [HB.out]; go_num, by rw [HR.out, HT.out, if_pos h]⟩
            case measure => simp [intOf]; omega
          · have ht : ((((R : Int) % 2 + (Bm : Int) % 2) % 2) == 1) = false := by simp; omega
            go_wp2
            go_round
            case rel => exact ⟨m + 1, by omega, by go_num, by rw [HB.out]; go_num, by rw [HR.out, HT.out, if_neg h]; go_num⟩
            case measure => simp [intOf]; omega
        · obtain rfl : m = 8 := by omega
          have HR := Lib.hid (rbits_8 r0 (s[k]).toNat hb)
          generalize rbits r0 (s[k]).toNat 8 = R at *
          go_wp2
          go_round
          case rel => exact ⟨k + 1, by omega, by go_num, by rw [Hs.out, HR.out]⟩
          case measure => simp [intOf]; omega
    · obtain rfl : k = s.size := by omega
      have Hk := Lib.hid (show s.data.toList.take s.size = s.data.toList from List.take_of_length_le (by simp))
      generalize hl : s.data.toList.take s.size = l at *
      generalize hR : CrcP.run 4294967295 l = R at *
      have HR := Lib.hid hR
      clear hR hl
      go_wp2
      go_ret
      exact ⟨ret_int (by rw [← Hk.out]; show _ = ((CrcP.run (0 ^^^ 4294967295) l ^^^ 4294967295 : Nat) : Int); rw [Nat.zero_xor, HR.out, ← M_sub R hrl]; omega), rfl⟩

theorem refFour_str (x k : Nat) : (four x).take (k + 1) = (four x).take k ++ ((four x).drop k).take 1 := by
  rw [← List.take_append_drop k ((four x).take (k + 1)), List.take_take, List.drop_take]
  rw [Nat.min_eq_left (by omega)]
  congr 2
  omega

theorem four_at (x k : Nat) (hk : k < 4) : ((four x).drop k).take 1 = [UInt8.ofNat (x / 256 ^ k % 256)] := by
  match k, hk with
  | 0, _ => simp [four]
  | 1, _ => simp [four]
  | 2, _ => simp [four]
  | 3, _ => simp [four]

set_option maxRecDepth 100000 in
set_option maxHeartbeats 400000 in
theorem reffour_any (x : Nat) (hx : x < 4294967296) (w : World) :
    Calls Try.prog 34 #[.int .u32 x] w fun e w' => e = .returned (.string ⟨(four x).toArray⟩) ∧ Below w.heap.size w w' := by
  have hB0 := Lib.hid (Below.refl w.heap.size w)
  go_enter Try.func34, Try.ntmps34
  go_wp2
  go_loopw [0, 3, 4, 5, 6, 7, 8, 9, 10, 11, 12, 13, 14, 15, 16, 17] (fun a0 a3 a4 _ _ _ _ _ _ _ _ _ _ _ _ _ wr => ∃ k : Nat, k ≤ 4 ∧ a4 = .int .i64 k ∧ a0 = .int .u32 (x / 256 ^ k : Nat) ∧ a3 = .string ⟨((four x).take k).toArray⟩ ∧ Below w.heap.size w wr) (fun _ _ a4 _ _ _ _ _ _ _ _ _ _ _ _ _ _ => 4 - (intOf a4).toNat)
  case atStart => exact ⟨0, by omega, rfl, by simp, by simp, hB0.out⟩
  case round =>
    obtain ⟨k, hk, rfl, rfl, rfl, hB⟩ := hrel
    have hBB := Lib.hid hB
    have hsz := hB.size
    clear hB
    by_cases hlt : k < 4
    · have hX : x / 256 ^ k < 4294967296 := Nat.lt_of_le_of_lt (Nat.div_le_self _ _) hx
      have HX := Lib.hid (show x / 256 ^ (k + 1) = x / 256 ^ k / 256 by rw [Nat.pow_succ, Nat.div_div_eq_div_mul])
      have HF := Lib.hid (four_at x k hlt)
      have HF2 := Lib.hid (refFour_str x k)
      have hll : ((four x).take k).length ≤ 4 := by simp [four]; omega
      generalize x / 256 ^ k = X at *
      generalize (four x).take k = L at *
      have hconv : ∀ W : World, W = wr.alloc (.cells #[.int .u8 ((X : Int) % 256)] 5) → (convert 25 9 (.slice (some ⟨wr.heap.size, 0, none⟩) 1 1)).run Try.prog W = .ok (.string ⟨[UInt8.ofNat (X % 256)].toArray⟩) W := by
        rintro W rfl
        refine run_bytes_str (bs := [UInt8.ofNat (X % 256)]) (fun j hj => ?_) rfl
        rw [World.cell?_alloc_new]
        have hj1 : j < 1 := hj
        match j, hj1 with
        | 0, _ => simp [bv]
      have hc := hconv _ rfl
      clear hconv
      go_wp2
      refine ⟨⟨k + 1, by omega, by go_num, by rw [HX.out]; go_num, ?_, hBB.out.alloc hsz _⟩, by simp [intOf]; omega⟩
      rw [HF2.out, HF.out, ByteArray.mk_append_mk]
    · obtain rfl : k = 4 := by omega
      go_wp2
      go_ret
      exact ⟨rfl, hBB.out⟩
end Go.Proofs.Ytmaaljfcnnlnpaa
