/-
  The walks of what a state asks of its numbers.
-/
import Derived.Test.YtmaaljfcnnlnpaaPageWalk4
namespace Go.Proofs.Ytmaaljfcnnlnpaa
open Go.RowKit

/-- A number of so many bits. -/
def fit (m x : Int) : Bool := max (min x m) (-m - 1) == x

set_option maxRecDepth 100000 in
set_option maxHeartbeats 2000000 in
theorem cut32_any (x : Int) (W : World) : Calls Try.prog 112 #[.int .i64 x, .int .i64 32] W fun r w' => r = .returned (.int .i64 (max (min x 2147483647) (-2147483648))) ∧ W = w' := by
  go_enter Try.func112, Try.ntmps112
  go_wp2
  all_goals go_ret
  all_goals exact ⟨ret_int (by omega), rfl⟩

set_option maxRecDepth 100000 in
set_option maxHeartbeats 2000000 in
theorem cut22_any (x : Int) (W : World) : Calls Try.prog 112 #[.int .i64 x, .int .i64 22] W fun r w' => r = .returned (.int .i64 (max (min x 2097151) (-2097152))) ∧ W = w' := by
  go_enter Try.func112, Try.ntmps112
  go_wp2
  all_goals go_ret
  all_goals exact ⟨ret_int (by omega), rfl⟩

set_option maxRecDepth 100000 in
set_option maxHeartbeats 2000000 in
theorem fits32_any (x : Int) (W : World) : Calls Try.prog 110 #[.int .i64 x, .int .i64 32] W fun r w' => r = .returned (.bool (fit 2147483647 x)) ∧ W = w' := by
  have C := Lib.hid (cut32_any x W)
  have HF := Lib.hid (show fit 2147483647 x = (max (min x 2147483647) (-2147483648) == x) from rfl)
  generalize fit 2147483647 x = r at *
  generalize max (min x 2147483647) (-2147483648) = y at *
  go_enter Try.func110, Try.ntmps110
  go_wp2_with fail
  refine C.out.mono ?_
  rintro e w1 ⟨rfl, rfl⟩
  go_wp2_with fail
  go_ret
  exact ⟨by rw [HF.out]; rfl, rfl⟩

set_option maxRecDepth 100000 in
set_option maxHeartbeats 2000000 in
theorem fits22_any (x : Int) (W : World) : Calls Try.prog 110 #[.int .i64 x, .int .i64 22] W fun r w' => r = .returned (.bool (fit 2097151 x)) ∧ W = w' := by
  have C := Lib.hid (cut22_any x W)
  have HF := Lib.hid (show fit 2097151 x = (max (min x 2097151) (-2097152) == x) from rfl)
  generalize fit 2097151 x = r at *
  generalize max (min x 2097151) (-2097152) = y at *
  go_enter Try.func110, Try.ntmps110
  go_wp2_with fail
  refine C.out.mono ?_
  rintro e w1 ⟨rfl, rfl⟩
  go_wp2_with fail
  go_ret
  exact ⟨by rw [HF.out]; rfl, rfl⟩

/-- A wave that is too great. -/
def big (x : Int) : Bool := decide (x < -1048576) || decide (1048576 < x)

set_option maxRecDepth 100000 in
set_option maxHeartbeats 2000000 in
theorem held1_any (x : Int) (W : World) : Calls Try.prog 114 #[.int .i64 x] W fun r w' => r = .returned (.bool (big x)) ∧ W = w' := by
  have HF := Lib.hid (show big x = (decide (x < -1048576) || decide (1048576 < x)) from rfl)
  generalize big x = r at *
  by_cases h1 : x < -1048576
  · go_enter Try.func114, Try.ntmps114
    go_wp2
    go_ret
    exact ⟨by rw [HF.out]; simp [h1], rfl⟩
  · go_enter Try.func114, Try.ntmps114
    go_wp2
    go_ret
    exact ⟨by rw [HF.out, decide_eq_false (Int.not_lt.2 h1)]; rfl, rfl⟩
end Go.Proofs.Ytmaaljfcnnlnpaa
