/-
  The walks of crc.made and what it calls.
-/
import Derived.Test.YtmaaljfcnnlnpaaBase
import Derived.Test.YtmaaljfcnnlnpaaCrcPure
import Derived.WalkKit
import Derived.WalkLawsBesides
import Derived.Lib.Hide
import Derived.BigQuiet
import Derived.Deep.QuietTactic
namespace Go.Proofs.Ytmaaljfcnnlnpaa
open Go.RowKit


theorem bit_odd (r : Nat) (hr : r < 4294967296) : (bits BinOp.and IntKind.u32 (r : Int) 1 == 1) = decide (r % 2 = 1) := by
  have h := u32_and_nat r 1 hr (by decide)
  rw [nat_mask1] at h
  rw [show (1 : Int) = ((1 : Nat) : Int) from rfl, h]
  rw [Bool.eq_iff_iff]; simp; omega

theorem turn_any (r : Nat) (w : World) (hr : r < 4294967296) :
    Calls Try.prog 100 #[.int .u32 r] w fun e w' => e = .returned (.int .u32 (CrcP.turn r : Nat)) ∧ w = w' := by
  by_cases h : r % 2 = 1
  · have hb : (bits BinOp.and IntKind.u32 (r : Int) 1 == 1) = true := by rw [bit_odd r hr]; simp [h]
    go_enter Try.func100, Try.ntmps100
    go_wp2
    go_ret
    refine ⟨ret_int ?_, rfl⟩
    have hx := u32_xor_nat (r / 2) 2197175160 (by omega) (by decide)
    rw [show ((r / 2 : Nat) : Int) = (r : Int) / 2 by omega] at hx
    unfold CrcP.turn
    rw [if_pos h]
    exact hx
  · have hb : (bits BinOp.and IntKind.u32 (r : Int) 1 == 1) = false := by rw [bit_odd r hr]; simp [h]
    go_enter Try.func100, Try.ntmps100
    go_wp2
    go_ret
    refine ⟨ret_int ?_, rfl⟩
    unfold CrcP.turn
    rw [if_neg h]; omega

/-- The block that 'made' has laid: 256 numbers. -/
structure Tb (w wr : World) (f : Nat → Nat) : Prop where
  below : Below w.heap.size w wr
  size : w.heap.size < wr.heap.size
  cell : ∀ j, j < 256 → wr.cell? ⟨w.heap.size, j, none⟩ = some (.int .u32 (f j : Nat))
  free : ∀ j, j < 256 → wr.frozen? ⟨w.heap.size, j, none⟩ = false
  lt : ∀ j, j < 256 → f j < 4294967296

theorem Tb.start (w : World) : Tb w (w.alloc (.cells Try.zeroCells162 162)) (fun _ => 0) := by
  refine ⟨(Below.refl _ _).alloc (Nat.le_refl _) _, by simp, fun j hj => ?_, fun j hj => ?_, fun _ _ => by decide⟩
  · rw [World.cell?_alloc_new]
    have h : ∀ j, j < 256 → Try.zeroCells162[j]? = some (.int .u32 0) := by
      have h0 : Try.zeroCells162 = Array.replicate 256 (.int .u32 0) := by kernel_rfl
      intro j hj
      rw [h0]; simp [hj]
    exact h j hj
  · rw [World.frozen?_alloc_new]

theorem Tb.set {w wr : World} {f : Nat → Nat} (h : Tb w wr f) (k x : Nat) (hx : x < 4294967296) :
    Tb w (wr.setCell ⟨w.heap.size, k, none⟩ (.int .u32 x)) (fun j => if j = k then x else f j) := by
  refine ⟨h.below.setCell (p := ⟨w.heap.size, k, none⟩) (Nat.le_refl _) _, by simpa using h.size, fun j hj => ?_, fun j hj => ?_, fun j hj => ?_⟩
  · by_cases e : j = k
    · subst e; rw [World.cell?_setCell_same wr _ _ (h.cell j hj)]; rw [if_pos rfl]
    · rw [World.cell?_setCell_other, h.cell j hj, if_neg e]
      intro e2; injection e2; omega
  · rw [World.frozen?_setCell]; exact h.free j hj
  · show (if j = k then x else f j) < _
    split
    · exact hx
    · exact h.lt j hj

/-- The table behind k whole rounds, and m turns of the next one. -/
def tf (k m : Nat) (j : Nat) : Nat := if j < k then CrcP.tab j else if j = k then CrcP.turnN m j else 0

theorem turnN_succ' (m r : Nat) : CrcP.turnN (m + 1) r = CrcP.turn (CrcP.turnN m r) := CrcP.turnN_add m 1 r

theorem Tb.congr {w wr : World} {f g : Nat → Nat} (h : Tb w wr f) (e : ∀ j, j < 256 → f j = g j) : Tb w wr g :=
  ⟨h.below, h.size, fun j hj => by rw [← e j hj]; exact h.cell j hj, h.free, fun j hj => by rw [← e j hj]; exact h.lt j hj⟩

set_option maxRecDepth 100000 in
set_option maxHeartbeats 400000 in
theorem made_any (w : World) :
    Calls Try.prog 82 #[] w fun e w' => e = .returned (.pointer (some ⟨w.heap.size, 0, none⟩)) ∧ Tb w w' CrcP.tab := by
  have h0 := Tb.start w
  go_enter Try.func82, Try.ntmps82
  go_wp2
  go_loopw [3, 4, 6, 7, 8, 9, 10, 11, 12, 13, 14, 15, 16, 17, 18, 19, 20, 21] (fun a3 a4 a6 a7 a8 a9 a10 a11 a12 a13 a14 a15 a16 a17 a18 a19 a20 a21 wr => ∃ k : Nat, k ≤ 256 ∧ a4 = .int .i64 k ∧ Tb w wr (fun j => if j < k then CrcP.tab j else 0)) (fun _ a4 _ _ _ _ _ _ _ _ _ _ _ _ _ _ _ _ _ => 256 - (intOf a4).toNat)
  case atStart => exact ⟨0, by omega, rfl, h0⟩
  case round =>
    clear h0
    obtain ⟨k, hk, rfl, ht⟩ := hrel
    by_cases hlt : k < 256
    · have hc := ht.cell k hlt
      have hf := ht.free k hlt
      have hsz := ht.size
      have ht2 := (ht.set k k (by omega)).congr (g := tf k 0) (fun j hj => by
        unfold tf; by_cases e : j = k
        · subst e; simp [CrcP.turnN]
        · simp [e])
      have H := Lib.hid ht
      have H2 := Lib.hid ht2
      clear ht ht2
      go_wp2
      rw [show decide ((k : Int) < 256) = true by simp; omega]
      go_loopw [11, 12, 13, 14, 15, 16, 17, 18, 19, 20] (fun a11 a12 a13 a14 a15 a16 a17 a18 a19 a20 wi => ∃ m : Nat, m ≤ 8 ∧ a11 = .int .i64 m ∧ Tb w wi (tf k m)) (fun a11 _ _ _ _ _ _ _ _ _ _ => 8 - (intOf a11).toNat)
      case atStart => exact ⟨0, by omega, rfl, H2.out⟩
      case round =>
        clear hc hf hsz H H2
        obtain ⟨m, hm, rfl, ht⟩ := hrel
        by_cases hlm : m < 8
        · have hc := ht.cell k hlt
          have hf := ht.free k hlt
          have hsz := ht.size
          have hb := ht.lt k hlt
          have H := Lib.hid ht
          clear ht
          generalize hx : tf k m k = x at hc hb
          have Hx := Lib.hid hx
          clear hx
          go_wp2_with (go_at_call 100; refine (turn_any x _ hb).mono ?_; rintro e w' ⟨rfl, rfl⟩)
          go_roundw
          case rel =>
            refine ⟨m + 1, by omega, by go_num, (H.out.set k (CrcP.turn x) (CrcP.turn_lt _ hb)).congr fun j hj => ?_⟩
            by_cases e : j = k
            · subst e
              rw [if_pos rfl, ← Hx.out]; unfold tf; simp [turnN_succ']
            · rw [if_neg e]; unfold tf; simp [e]
          case measure => simp [intOf]; omega
        · obtain rfl : m = 8 := by omega
          have H := Lib.hid ht
          clear ht
          go_wp2
          go_roundw
          case rel =>
            refine ⟨k + 1, by omega, by go_num, H.out.congr fun j hj => ?_⟩
            unfold tf
            by_cases e : j = k
            · subst e; simp; rfl
            · have e1 : (j < k + 1) ↔ j < k := by omega
              simp [e, e1]
          case measure => simp [intOf]; omega
    · obtain rfl : k = 256 := by omega
      go_wp2
      go_ret
      exact ⟨rfl, ht.congr fun j hj => by simp [hj]⟩
end Go.Proofs.Ytmaaljfcnnlnpaa

namespace Go.Proofs.Ytmaaljfcnnlnpaa
open Go.RowKit

theorem take_snoc (s : ByteArray) (k : Nat) (h : k < s.size) : s.data.toList.take (k + 1) = s.data.toList.take k ++ [s[k]] := by
  rw [List.take_succ_eq_append_getElem (by simpa using h)]; rfl

theorem run_snoc (r : Nat) (s : ByteArray) (k : Nat) (h : k < s.size) :
    CrcP.run r (s.data.toList.take (k + 1)) = CrcP.step (CrcP.run r (s.data.toList.take k)) (s[k]).toNat := by
  rw [take_snoc s k h, CrcP.run_append]; rfl

theorem Tb.drewN {w wr : World} {f : Nat → Nat} (h : Tb w wr f) (n : Nat) : Tb w (wr.drewN n) f :=
  ⟨below_drewN h.below n, h.size, h.cell, h.free, h.lt⟩

set_option maxRecDepth 100000 in
set_option maxHeartbeats 400000 in
theorem more_any (s0 : Nat) (hs0 : s0 < 4294967296) (s : ByteArray) (hs : s.size ≤ maxLen) (w : World) :
    Calls Try.prog 30 #[.int .u32 s0, .string s] w fun e w' => e = .returned (.int .u32 (CrcP.more s0 s.data.toList : Nat)) ∧ Below w.heap.size w w' := by
  unfold maxLen at hs
  have hx0 : bits BinOp.xor IntKind.u32 (s0 : Int) 4294967295 = ((s0 ^^^ 4294967295 : Nat) : Int) := u32_xor_nat s0 4294967295 hs0 (by decide)
  have hr0 : s0 ^^^ 4294967295 < 4294967296 := Nat.xor_lt_two_pow (n := 32) hs0 (by decide)
  generalize hr : s0 ^^^ 4294967295 = r0 at hx0 hr0
  have Hr := Lib.hid hr
  clear hr
  go_enter Try.func30, Try.ntmps30
  go_wp2_with (go_at_call 82; refine (made_any _).mono ?_; rintro e w1 ⟨rfl, ht⟩)
  go_loopw [6, 7, 13, 14, 15, 16, 17, 18, 19, 20, 21, 22, 23, 24, 25, 26, 27, 28, 29] (fun a6 a7 a13 a14 a15 a16 a17 a18 a19 a20 a21 a22 a23 a24 a25 a26 a27 a28 a29 wr => ∃ k : Nat, k ≤ s.size ∧ a13 = .int .i64 k ∧ a6 = .int .u32 (CrcP.run r0 (s.data.toList.take k) : Nat) ∧ Tb w wr CrcP.tab) (fun _ _ a13 _ _ _ _ _ _ _ _ _ _ _ _ _ _ _ _ _ => s.size - (intOf a13).toNat)
  case atStart => exact ⟨0, by omega, rfl, rfl, ht⟩
  case round =>
    clear ht hx0
    obtain ⟨k, hk, rfl, rfl, ht⟩ := hrel
    by_cases hlt : k < s.size
    · have hrl : CrcP.run r0 (s.data.toList.take k) < 4294967296 := CrcP.run_lt _ _ hr0
      have Hs := Lib.hid (run_snoc r0 s k hlt)
      generalize CrcP.run r0 (s.data.toList.take k) = r at hrl Hs
      have hb : (s[k]).toNat < 256 := (s[k]).toNat_lt
      have H := Lib.hid ht
      have hsz := ht.size
      have hc := ht.cell ((r % 256) ^^^ (s[k]).toNat) (Nat.xor_lt_two_pow (n := 8) (by omega) hb)
      have hi : (r % 256) ^^^ (s[k]).toNat < 256 := Nat.xor_lt_two_pow (n := 8) (by omega) hb
      have hx : bits BinOp.xor IntKind.u8 ((r : Int) % 256) ((s[k]).toNat : Int) = (((r % 256) ^^^ (s[k]).toNat : Nat) : Int) := u8_xor_nat (r % 256) _ (by omega) hb
      clear ht
      have hl := Lib.hid (show CrcP.step r (s[k]).toNat = (r / 256) ^^^ CrcP.tab ((r % 256) ^^^ (s[k]).toNat) from rfl)
      generalize (r % 256) ^^^ (s[k]).toNat = ix at *
      have htb : CrcP.tab ix < 4294967296 := CrcP.turnN_lt 8 ix (by omega)
      have hy : bits BinOp.xor IntKind.u32 ((r : Int) / 256) (CrcP.tab ix : Nat) = (((r / 256) ^^^ CrcP.tab ix : Nat) : Int) := u32_xor_nat (r / 256) (CrcP.tab ix) (by omega) htb
      generalize CrcP.tab ix = t at *
      go_wp2
      go_quiet (fail)
      go_wp2
      go_roundw
      case rel => exact ⟨k + 1, by omega, by go_num, by rw [Hs.out, hl.out], H.out.drewN _⟩
      case measure => simp [intOf]; omega
    · obtain rfl : k = s.size := by omega
      have Hk := Lib.hid (show s.data.toList.take s.size = s.data.toList from List.take_of_length_le (by simp))
      have hrl : CrcP.run r0 (s.data.toList.take s.size) < 4294967296 := CrcP.run_lt _ _ hr0
      generalize s.data.toList.take s.size = l at *
      have hx2 : bits BinOp.xor IntKind.u32 ((CrcP.run r0 l : Nat) : Int) 4294967295 = ((CrcP.run r0 l ^^^ 4294967295 : Nat) : Int) := u32_xor_nat _ 4294967295 hrl (by decide)
      generalize hR : CrcP.run r0 l = R at *
      have HR := Lib.hid hR
      clear hR
      have H := Lib.hid ht
      clear ht
      go_wp2
      go_ret
      exact ⟨ret_int (by rw [← Hk.out, ← HR.out, ← Hr.out]; rfl), H.out.below⟩

theorem sum_any (s : ByteArray) (hs : s.size ≤ maxLen) (w : World) :
    Calls Try.prog 29 #[.string s] w fun e w' => e = .returned (.int .u32 (CrcP.sum s.data.toList : Nat)) ∧ Below w.heap.size w w' := by
  go_enter Try.func29, Try.ntmps29
  go_wp2_with (go_at_call 30; refine (more_any 0 (by decide) s hs _).mono ?_; rintro e w1 ⟨rfl, hb⟩)
  go_ret
  exact ⟨rfl, hb⟩
end Go.Proofs.Ytmaaljfcnnlnpaa
