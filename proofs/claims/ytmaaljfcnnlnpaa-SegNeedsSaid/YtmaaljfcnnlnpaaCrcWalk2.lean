/-
  The walk of crc.More and crc.Sum.
-/
import Derived.Test.YtmaaljfcnnlnpaaCrcWalk1
namespace Go.Proofs.Ytmaaljfcnnlnpaa
open Go.RowKit

theorem take_snoc (s : ByteArray) (k : Nat) (h : k < s.size) : s.data.toList.take (k + 1) = s.data.toList.take k ++ [s[k]] := by
  rw [List.take_succ_eq_append_getElem (by simpa using h)]; rfl

theorem run_snoc (r : Nat) (s : ByteArray) (k : Nat) (h : k < s.size) :
    CrcP.run r (s.data.toList.take (k + 1)) = CrcP.step (CrcP.run r (s.data.toList.take k)) (s[k]).toNat := by
  rw [take_snoc s k h, CrcP.run_append]; rfl

theorem Tb.drewN {w wr : World} {f : Nat → Nat} (h : Tb w wr f) (n : Nat) : Tb w (wr.drewN n) f :=
  ⟨below_drewN h.below n, h.size, h.cell, h.free, h.lt⟩

set_option maxRecDepth 100000 in
set_option maxHeartbeats 400000 in
theorem more_any (s0 : Nat) (hs0 : s0 < 4294967296) (s : ByteArray) (hs : s.size ≤ maxLen) (w : World) :
    Calls Try.prog 30 #[.int .u32 s0, .string s] w fun e w' => e = .returned (.int .u32 (CrcP.more s0 s.data.toList : Nat)) ∧ Below w.heap.size w w' := by
  unfold maxLen at hs
  have hx0 : bits BinOp.xor IntKind.u32 (s0 : Int) 4294967295 = ((s0 ^^^ 4294967295 : Nat) : Int) := u32_xor_nat s0 4294967295 hs0 (by decide)
  have hr0 : s0 ^^^ 4294967295 < 4294967296 := Nat.xor_lt_two_pow (n := 32) hs0 (by decide)
  generalize hr : s0 ^^^ 4294967295 = r0 at hx0 hr0
  have Hr := Lib.hid hr
  clear hr
  go_enter Try.func30, Try.ntmps30
  go_wp2_with (go_at_call 82; refine (made_any _).mono ?_; rintro e w1 ⟨rfl, ht⟩)
  go_loopw [6, 7, 13, 14, 15, 16, 17, 18, 19, 20, 21, 22, 23, 24, 25, 26, 27, 28, 29] (fun a6 a7 a13 a14 a15 a16 a17 a18 a19 a20 a21 a22 a23 a24 a25 a26 a27 a28 a29 wr => ∃ k : Nat, k ≤ s.size ∧ a13 = .int .i64 k ∧ a6 = .int .u32 (CrcP.run r0 (s.data.toList.take k) : Nat) ∧ Tb w wr CrcP.tab) (fun _ _ a13 _ _ _ _ _ _ _ _ _ _ _ _ _ _ _ _ _ => s.size - (intOf a13).toNat)
  case atStart => exact ⟨0, by omega, rfl, rfl, ht⟩
  case round =>
    clear ht hx0
    obtain ⟨k, hk, rfl, rfl, ht⟩ := hrel
    by_cases hlt : k < s.size
    · have hrl : CrcP.run r0 (s.data.toList.take k) < 4294967296 := CrcP.run_lt _ _ hr0
      have Hs := Lib.hid (run_snoc r0 s k hlt)
      generalize CrcP.run r0 (s.data.toList.take k) = r at hrl Hs
      have hb : (s[k]).toNat < 256 := (s[k]).toNat_lt
      have H := Lib.hid ht
      have hsz := ht.size
      have hc := ht.cell ((r % 256) ^^^ (s[k]).toNat) (Nat.xor_lt_two_pow (n := 8) (by omega) hb)
      have hi : (r % 256) ^^^ (s[k]).toNat < 256 := Nat.xor_lt_two_pow (n := 8) (by omega) hb
      have hx : bits BinOp.xor IntKind.u8 ((r : Int) % 256) ((s[k]).toNat : Int) = (((r % 256) ^^^ (s[k]).toNat : Nat) : Int) := u8_xor_nat (r % 256) _ (by omega) hb
      clear ht
      have hl := Lib.hid (show CrcP.step r (s[k]).toNat = (r / 256) ^^^ CrcP.tab ((r % 256) ^^^ (s[k]).toNat) from rfl)
      generalize (r % 256) ^^^ (s[k]).toNat = ix at *
      have htb : CrcP.tab ix < 4294967296 := CrcP.turnN_lt 8 ix (by omega)
      have hy : bits BinOp.xor IntKind.u32 ((r : Int) / 256) (CrcP.tab ix : Nat) = (((r / 256) ^^^ CrcP.tab ix : Nat) : Int) := u32_xor_nat (r / 256) (CrcP.tab ix) (by omega) htb
      generalize CrcP.tab ix = t at *
      go_wp2
      go_quiet (fail)
      go_wp2
      go_roundw
      case rel => exact ⟨k + 1, by omega, by go_num, by rw [Hs.out, hl.out], H.out.drewN _⟩
      case measure => simp [intOf]; omega
    · obtain rfl : k = s.size := by omega
      have Hk := Lib.hid (show s.data.toList.take s.size = s.data.toList from List.take_of_length_le (by simp))
      have hrl : CrcP.run r0 (s.data.toList.take s.size) < 4294967296 := CrcP.run_lt _ _ hr0
      generalize s.data.toList.take s.size = l at *
      have hx2 : bits BinOp.xor IntKind.u32 ((CrcP.run r0 l : Nat) : Int) 4294967295 = ((CrcP.run r0 l ^^^ 4294967295 : Nat) : Int) := u32_xor_nat _ 4294967295 hrl (by decide)
      generalize hR : CrcP.run r0 l = R at *
      have HR := Lib.hid hR
      clear hR
      have H := Lib.hid ht
      clear ht
      go_wp2
      go_ret
      exact ⟨ret_int (by rw [← Hk.out, ← HR.out, ← Hr.out]; rfl), H.out.below⟩

theorem sum_any (s : ByteArray) (hs : s.size ≤ maxLen) (w : World) :
    Calls Try.prog 29 #[.string s] w fun e w' => e = .returned (.int .u32 (CrcP.sum s.data.toList : Nat)) ∧ Below w.heap.size w w' := by
  go_enter Try.func29, Try.ntmps29
  go_wp2_with (go_at_call 30; refine (more_any 0 (by decide) s hs _).mono ?_; rintro e w1 ⟨rfl, hb⟩)
  go_ret
  exact ⟨rfl, hb⟩
end Go.Proofs.Ytmaaljfcnnlnpaa
