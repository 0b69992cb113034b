/-
  The walk of the law CrcMore.
-/
import Derived.Test.YtmaaljfcnnlnpaaCrcWalk5
namespace Go.Proofs.Ytmaaljfcnnlnpaa
open Go.RowKit

theorem data_append (s t : ByteArray) : (s ++ t).data.toList = s.data.toList ++ t.data.toList := by
  simp [ByteArray.data_append]

set_option maxRecDepth 100000 in
set_option maxHeartbeats 400000 in
theorem crcMore_walk (x : Nat) (hx : x < 4294967296) (s t : ByteArray) (w : World) :
    Calls Try.prog 4 #[.int .u32 x, .string s, .string t] w fun e w' => e = .returned (.bool true) ∧ Below w.heap.size w w' := by
  have hb := Below.refl w.heap.size w
  by_cases h1 : 800 < s.size
  · go_enter Try.func4, Try.ntmps4
    go_wp2_with fail
    refine (below_rel hb (awake02 _)).mono ?_; clear hb; rintro e w1 ⟨rfl, hb⟩
    go_wp2_with fail
    refine (below_rel hb (awake02 _)).mono ?_; clear hb; rintro e w1 ⟨rfl, hb⟩
    go_wp2_with fail
    go_ret
    exact ⟨rfl, hb⟩
  by_cases h2 : 800 < t.size
  · go_enter Try.func4, Try.ntmps4
    go_wp2_with fail
    refine (below_rel hb (awake02 _)).mono ?_; clear hb; rintro e w1 ⟨rfl, hb⟩
    go_wp2_with fail
    refine (below_rel hb (awake02 _)).mono ?_; clear hb; rintro e w1 ⟨rfl, hb⟩
    go_wp2_with fail
    go_ret
    exact ⟨rfl, hb⟩
  have hl : (s ++ t).size ≤ 1600 := by rw [ByteArray.size_append]; omega
  have e1 : CrcP.sum (s ++ t).data.toList = CrcP.more (CrcP.sum s.data.toList) t.data.toList := by rw [data_append]; exact (CrcP.more_more 0 _ _).symm
  have e2 : CrcP.more x (s ++ t).data.toList = CrcP.more (CrcP.more x s.data.toList) t.data.toList := by rw [data_append]; exact (CrcP.more_more x _ _).symm
  have c1 := fun W => sum_any (s ++ t) (by unfold maxLen; omega) W
  have c2 := fun W => more_any x hx (s ++ t) (by unfold maxLen; omega) W
  have c3 := fun W => more_any x hx (⟨#[]⟩ : ByteArray) (by decide) W
  rw [show (⟨#[]⟩ : ByteArray).data.toList = [] from rfl, CrcP.more_nil] at c3
  rw [e1] at c1
  rw [e2] at c2
  have C1 := Lib.hid c1
  have C2 := Lib.hid c2
  have C3 := Lib.hid c3
  clear c1 c2 c3 e1 e2
  have l1 := CrcP.sum_lt s.data.toList
  have l2 := CrcP.more_lt x s.data.toList hx
  go_enter Try.func4, Try.ntmps4
  go_wp2_with fail
  refine (below_rel hb (awake02 _)).mono ?_; clear hb; rintro e w1 ⟨rfl, hb⟩
  go_wp2_with fail
  refine (below_rel hb (sum_any s (by unfold maxLen; omega) _)).mono ?_; clear hb; rintro e w1 ⟨rfl, hb⟩
  go_wp2_with fail
  refine (below_rel hb (more_any _ l1 t (by unfold maxLen; omega) _)).mono ?_; clear hb; rintro e w1 ⟨rfl, hb⟩
  go_wp2_with fail
  refine (below_rel hb (C1.out _)).mono ?_; clear hb; rintro e w1 ⟨rfl, hb⟩
  go_wp2_with fail
  refine (below_rel hb (more_any x hx s (by unfold maxLen; omega) _)).mono ?_; clear hb; rintro e w1 ⟨rfl, hb⟩
  go_wp2_with fail
  refine (below_rel hb (more_any _ l2 t (by unfold maxLen; omega) _)).mono ?_; clear hb; rintro e w1 ⟨rfl, hb⟩
  go_wp2_with fail
  refine (below_rel hb (C2.out _)).mono ?_; clear hb; rintro e w1 ⟨rfl, hb⟩
  go_wp2_with fail
  refine (below_rel hb (C3.out _)).mono ?_; clear hb; rintro e w1 ⟨rfl, hb⟩
  go_wp2_with fail
  go_ret
  exact ⟨rfl, hb⟩
end Go.Proofs.Ytmaaljfcnnlnpaa
