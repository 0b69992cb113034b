/-
  The walks of the laws CrcPlays and CrcNumbers.
-/
import Derived.Test.YtmaaljfcnnlnpaaCrcWalk5
namespace Go.Proofs.Ytmaaljfcnnlnpaa
open Go.RowKit

theorem four_length (x : Nat) : (four x).length = 4 := rfl

theorem num_four (x : Nat) (hx : x < 4294967296) : CrcP.num (four x) = x := by
  simp only [four, CrcP.num, ofNat_mod]
  omega

theorem numP_four (x : Nat) (hx : x < 4294967296) (l : List UInt8) : numP (four x ++ l) = x := by
  unfold numP
  rw [List.take_append_of_le_length (by simp [four])]
  rw [List.take_of_length_le (by simp [four])]
  exact num_four x hx

theorem four_inj (x y : Nat) (hx : x < 4294967296) (hy : y < 4294967296) (h : four x = four y) : x = y := by
  rw [← num_four x hx, ← num_four y hy, h]

set_option maxRecDepth 100000 in
set_option maxHeartbeats 400000 in
theorem crcPlays_walk (s : ByteArray) (x : Nat) (hx : x < 4294967296) (w : World) :
    Calls Try.prog 6 #[.string s, .int .u32 x] w fun e w' => e = .returned (.bool true) ∧ Below w.heap.size w w' := by
  have hb := Below.refl w.heap.size w
  by_cases h1 : 800 < s.size
  · go_enter Try.func6, Try.ntmps6
    go_wp2_with fail
    refine (below_rel hb (awake02 _)).mono ?_; clear hb; rintro e w1 ⟨rfl, hb⟩
    go_wp2_with fail
    refine (below_rel hb (awake02 _)).mono ?_; clear hb; rintro e w1 ⟨rfl, hb⟩
    go_wp2_with fail
    go_ret
    exact ⟨rfl, hb⟩
  have c1 := fun W => number_any ⟨(four x).toArray⟩ (by show 4 ≤ _; decide) W
  rw [show numP (⟨(four x).toArray⟩ : ByteArray).data.toList = x from by have := numP_four x hx []; simpa using this] at c1
  have C1 := Lib.hid c1
  have c2 := fun W => number_any (⟨(four x).toArray⟩ ++ s) (by rw [ByteArray.size_append]; unfold maxLen; show 4 + s.size ≤ _; omega) W
  rw [show numP (⟨(four x).toArray⟩ ++ s : ByteArray).data.toList = x from by rw [data_append]; exact numP_four x hx _] at c2
  have C2 := Lib.hid c2
  have c3 := fun W => number_any (⟨#[]⟩ : ByteArray) (by decide) W
  rw [show numP (⟨#[]⟩ : ByteArray).data.toList = 0 from rfl] at c3
  have C3 := Lib.hid c3
  clear c1 c2 c3
  have hl4 : (⟨(four x).toArray⟩ : ByteArray).size = 4 := rfl
  generalize hF : (⟨(four x).toArray⟩ : ByteArray) = F at *
  have F1 := Lib.hid (fun W => hF ▸ four_any x hx W)
  have F2 := Lib.hid (fun W => hF ▸ reffour_any x hx W)
  clear hF
  go_enter Try.func6, Try.ntmps6
  go_wp2_with fail
  refine (below_rel hb (awake02 _)).mono ?_; clear hb; rintro e w1 ⟨rfl, hb⟩
  go_wp2_with fail
  refine (below_rel hb (sum_any s (by unfold maxLen; omega) _)).mono ?_; clear hb; rintro e w1 ⟨rfl, hb⟩
  go_wp2_with fail
  refine (same_rel hb (refsum_any s (by unfold maxLen; omega) _)).mono ?_; clear hb; rintro e w1 ⟨rfl, hb⟩
  go_wp2_with fail
  refine (below_rel hb (F1.out _)).mono ?_; clear hb; rintro e w1 ⟨rfl, hb⟩
  go_wp2_with fail
  refine (below_rel hb (F2.out _)).mono ?_; clear hb; rintro e w1 ⟨rfl, hb⟩
  go_wp2_with fail
  refine (below_rel hb (F1.out _)).mono ?_; clear hb; rintro e w1 ⟨rfl, hb⟩
  go_wp2_with fail
  refine (same_rel hb (C1.out _)).mono ?_; clear hb; rintro e w1 ⟨rfl, hb⟩
  go_wp2_with fail
  refine (below_rel hb (F1.out _)).mono ?_; clear hb; rintro e w1 ⟨rfl, hb⟩
  go_wp2_with fail
  refine (same_rel hb (C2.out _)).mono ?_; clear hb; rintro e w1 ⟨rfl, hb⟩
  go_wp2_with fail
  refine (same_rel hb (C3.out _)).mono ?_; clear hb; rintro e w1 ⟨rfl, hb⟩
  go_wp2_with fail
  go_ret
  exact ⟨rfl, hb⟩

theorem numP_two (x : Nat) : numP ((four x).take 2) = x % 65536 := by
  unfold numP
  rw [List.take_take]
  simp only [four, List.take_succ_cons, List.take_zero, CrcP.num, ofNat_mod, Nat.min_eq_right, Nat.reduceLeDiff]
  omega

set_option maxRecDepth 100000 in
set_option maxHeartbeats 400000 in
theorem crcNumbers_walk (x : Nat) (hx : x < 4294967296) (y : Nat) (hy : y < 4294967296) (s : ByteArray) (w : World) :
    Calls Try.prog 7 #[.int .u32 x, .int .u32 y, .string s] w fun e w' => e = .returned (.bool true) ∧ Below w.heap.size w w' := by
  have hb := Below.refl w.heap.size w
  by_cases h1 : 800 < s.size
  · go_enter Try.func7, Try.ntmps7
    go_wp2_with fail
    refine (below_rel hb (awake02 _)).mono ?_; clear hb; rintro e w1 ⟨rfl, hb⟩
    go_wp2_with fail
    refine (below_rel hb (awake02 _)).mono ?_; clear hb; rintro e w1 ⟨rfl, hb⟩
    go_wp2_with fail
    go_ret
    exact ⟨rfl, hb⟩
  have hl4 : (⟨(four x).toArray⟩ : ByteArray).size = 4 := rfl
  have hl4y : (⟨(four y).toArray⟩ : ByteArray).size = 4 := rfl
  have heq : ((⟨(four x).toArray⟩ : ByteArray).toList = (⟨(four y).toArray⟩ : ByteArray).toList) ↔ x = y := by
    rw [Lib.toList_data, Lib.toList_data]
    exact ⟨fun h => four_inj x y hx hy (by simpa using h), fun h => by rw [h]⟩
  have hcat : ((s ++ ⟨(four x).toArray⟩).extract s.size (s.size + 4)).data.toList = four x := by
    rw [Lib.extract_data, data_append, List.drop_append_of_le_length (by simp), List.drop_of_length_le (by simp)]
    rw [show s.size + 4 - s.size = 4 by omega]; rfl
  have htwo : ((⟨(four x).toArray⟩ : ByteArray).extract 0 2).data.toList = (four x).take 2 := by
    rw [Lib.extract_data]; rfl
  have c1 := fun W => number_any ((s ++ ⟨(four x).toArray⟩).extract s.size (s.size + 4)) (by rw [ByteArray.size_extract]; unfold maxLen; omega) W
  rw [hcat, show numP (four x) = x from by have := numP_four x hx []; simpa using this] at c1
  have C1 := Lib.hid c1
  have c2 := fun W => number_any ((⟨(four x).toArray⟩ : ByteArray).extract 0 2) (by rw [ByteArray.size_extract]; unfold maxLen; omega) W
  rw [htwo, numP_two] at c2
  have C2 := Lib.hid c2
  have hand : bits BinOp.and IntKind.u32 (x : Int) 65535 = ((x % 65536 : Nat) : Int) := by
    have h := u32_and_nat x 65535 hx (by decide)
    rw [nat_mask16] at h
    exact h
  clear c1 c2 hcat htwo
  have F1 := Lib.hid (fun W => four_any x hx W)
  have F2 := Lib.hid (fun W => four_any y hy W)
  generalize (⟨(four x).toArray⟩ : ByteArray) = F at *
  generalize (⟨(four y).toArray⟩ : ByteArray) = G at *
  by_cases hxy : x = y
  · have hs := heq.2 hxy
    subst hxy
    clear heq
    go_enter Try.func7, Try.ntmps7
    go_wp2_with fail
    refine (below_rel hb (awake02 _)).mono ?_; clear hb; rintro e w1 ⟨rfl, hb⟩
    go_wp2_with fail
    refine (below_rel hb (F1.out _)).mono ?_; clear hb; rintro e w1 ⟨rfl, hb⟩
    go_wp2_with fail
    refine (below_rel hb (F2.out _)).mono ?_; clear hb; rintro e w1 ⟨rfl, hb⟩
    go_wp2_with fail
    refine (same_rel hb (C1.out _)).mono ?_; clear hb; rintro e w1 ⟨rfl, hb⟩
    go_wp2_with fail
    refine (same_rel hb (C2.out _)).mono ?_; clear hb; rintro e w1 ⟨rfl, hb⟩
    go_wp2_with fail
    go_ret
    exact ⟨rfl, hb⟩
  · have hs : (F.toList == G.toList) = false := by rw [beq_eq_false_iff_ne]; exact fun h => hxy (heq.1 h)
    have hn : ((x : Int) == (y : Int)) = false := by rw [beq_eq_false_iff_ne]; omega
    clear heq
    go_enter Try.func7, Try.ntmps7
    go_wp2_with fail
    refine (below_rel hb (awake02 _)).mono ?_; clear hb; rintro e w1 ⟨rfl, hb⟩
    go_wp2_with fail
    refine (below_rel hb (F1.out _)).mono ?_; clear hb; rintro e w1 ⟨rfl, hb⟩
    go_wp2_with fail
    refine (below_rel hb (F2.out _)).mono ?_; clear hb; rintro e w1 ⟨rfl, hb⟩
    go_wp2_with fail
    refine (same_rel hb (C1.out _)).mono ?_; clear hb; rintro e w1 ⟨rfl, hb⟩
    go_wp2_with fail
    refine (same_rel hb (C2.out _)).mono ?_; clear hb; rintro e w1 ⟨rfl, hb⟩
    go_wp2_with fail
    go_ret
    exact ⟨rfl, hb⟩
end Go.Proofs.Ytmaaljfcnnlnpaa
