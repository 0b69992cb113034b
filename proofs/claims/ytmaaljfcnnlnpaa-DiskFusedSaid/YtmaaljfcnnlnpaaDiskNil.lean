/-
  The methods of no disk.
-/
import Derived.Test.YtmaaljfcnnlnpaaDiskWalk9
namespace Go.Proofs.Ytmaaljfcnnlnpaa
open Go.RowKit

/-- The worlds of the walk: the result's bytes in a block of their own. -/
structure NB (w W : World) (g : Nat) : Prop where
  below : Below w.heap.size w W
  res : Buf W g zero64
  ge : w.heap.size ≤ g
theorem NB.start (w : World) (c : Array Value) (t : TypeId) (hc : c = (zero64.map bv).toArray) : NB w (w.alloc (.cells c t)) w.heap.size :=
  ⟨(Below.refl _ _).alloc (Nat.le_refl _) _, Buf.new w zero64 c t hc zero64_length, Nat.le_refl _⟩
theorem NB.stored {w W : World} {g : Nat} (h : NB w W g) (p : List UInt8) (hp : p.length = 64) : Below w.heap.size w (W.setCells g 0 (p.map bv)) ∧ Buf (W.setCells g 0 (p.map bv)) g p :=
  ⟨below_setCells h.ge _ _ _ h.below, h.res.stored p hp⟩

set_option maxRecDepth 100000 in
set_option maxHeartbeats 2000000 in
theorem may_nil (W : World) (i : Int) : Calls Try.prog 89 #[.pointer none, .int .i64 i] W fun r w' => r = .returned (.int .i64 1) ∧ W = w' := by
  go_enter Try.func89, Try.ntmps89
  go_wp2
  go_ret
  exact ⟨rfl, rfl⟩

set_option maxRecDepth 100000 in
set_option maxHeartbeats 2000000 in
theorem read_nil (W : World) (i : Int) : Calls Try.prog 57 #[.pointer none, .int .i64 i] W fun r w' => r = .returned (.tuple #[.agg (zero64.map bv).toArray, .int .i64 1]) ∧ Below W.heap.size W w' := by
  have M := Lib.hid (fun X => may_nil X i)
  have S0 := Lib.hid (fun c t hc => NB.start W c t hc)
  go_enter Try.func57, Try.ntmps57
  go_upto_region 1 with fail
  refine wp_gate (fun X => NB W X W.heap.size) (S0.out _ _ (by rfl)) ?_
  clear S0
  intro W1 hS
  have HS := Lib.hid hS
  clear hS
  generalize W.heap.size = g at *
  go_wp2_with fail
  refine (M.out _).mono ?_
  rintro r w1 ⟨rfl, rfl⟩
  have F := Lib.hid (HS.out.stored zero64 rfl)
  go_wp2_with (first
    | refine wpList_zero56 (by rfl) (by rfl) ?_
    | refine wpList_store56 (by rfl) _ _ (by rfl) g (by rfl) zero64 (by rfl) _ HS.out.res rfl ?_)
  exact bodyPost_ret (results_cell2 (p := 4) (u := 5) (ty := 56) rfl _ _ ⟨g, 0, none⟩ _ _ rfl (F.out.2.loadVar56) rfl) rfl ⟨rfl, F.out.1⟩

set_option maxRecDepth 100000 in
set_option maxHeartbeats 2000000 in
theorem write_nil (W : World) (i : Int) (p : List UInt8) : Calls Try.prog 54 #[.pointer none, .int .i64 i, .agg (p.map bv).toArray] W fun r w' => r = .returned (.int .i64 1) ∧ Below W.heap.size W w' := by
  have M := Lib.hid (fun X => may_nil X i)
  have HB := Lib.hid (show Below W.heap.size W (W.alloc (.cells (p.map bv).toArray 56)) from (Below.refl _ _).alloc (Nat.le_refl _) _)
  go_enter Try.func54, Try.ntmps54
  go_wp2_with fail
  refine (M.out _).mono ?_
  rintro r w1 ⟨rfl, rfl⟩
  go_wp2_with fail
  go_ret
  exact ⟨rfl, HB.out⟩

set_option maxRecDepth 100000 in
set_option maxHeartbeats 2000000 in
theorem sync_nil (W : World) : Calls Try.prog 64 #[.pointer none] W fun r w' => r = .returned (.int .i64 1) ∧ W = w' := by
  have M := Lib.hid (fun X => may_nil X 0)
  go_enter Try.func64, Try.ntmps64
  go_wp2_with fail
  refine (M.out _).mono ?_
  rintro r w1 ⟨rfl, rfl⟩
  go_wp2_with fail
  go_ret
  exact ⟨rfl, rfl⟩

set_option maxRecDepth 100000 in
set_option maxHeartbeats 2000000 in
theorem size_nil (W : World) : Calls Try.prog 65 #[.pointer none] W fun r w' => r = .returned (.int .i64 0) ∧ W = w' := by
  go_enter Try.func65, Try.ntmps65
  go_wp2
  go_ret
  exact ⟨rfl, rfl⟩

set_option maxRecDepth 100000 in
set_option maxHeartbeats 2000000 in
theorem loose_nil (W : World) : Calls Try.prog 58 #[.pointer none] W fun r w' => r = .returned (.int .i64 0) ∧ W = w' := by
  go_enter Try.func58, Try.ntmps58
  go_wp2
  go_ret
  exact ⟨rfl, rfl⟩

set_option maxRecDepth 100000 in
set_option maxHeartbeats 2000000 in
theorem reads_nil (W : World) (i : Int) : Calls Try.prog 71 #[.pointer none, .int .i64 i] W fun r w' => r = .returned (.int .i64 0) ∧ W = w' := by
  go_enter Try.func71, Try.ntmps71
  go_wp2
  go_ret
  exact ⟨rfl, rfl⟩

set_option maxRecDepth 100000 in
set_option maxHeartbeats 2000000 in
theorem crash_nil (W : World) : Calls Try.prog 55 #[.pointer none, .slice none 0 0] W fun r w' => r = .returned (.tuple #[]) ∧ Below W.heap.size W w' := by
  have HB := Lib.hid (show Below W.heap.size W (W.alloc (.cells #[.slice none 0 0] 75)) from (Below.refl _ _).alloc (Nat.le_refl _) _)
  go_enter Try.func55, Try.ntmps55
  go_wp2
  exact ⟨rfl, .tuple #[], by simp [results, Try.results55], rfl, HB.out⟩

set_option maxRecDepth 100000 in
set_option maxHeartbeats 2000000 in
theorem up_nil (W : World) : Calls Try.prog 56 #[.pointer none] W fun r w' => r = .returned (.tuple #[]) ∧ W = w' := by
  go_enter Try.func56, Try.ntmps56
  go_wp2
  exact ⟨rfl, .tuple #[], by simp [results, Try.results56], rfl, rfl⟩

set_option maxRecDepth 100000 in
set_option maxHeartbeats 2000000 in
theorem fuse_nil (W : World) (n : Int) : Calls Try.prog 69 #[.pointer none, .int .i64 n] W fun r w' => r = .returned (.tuple #[]) ∧ W = w' := by
  go_enter Try.func69, Try.ntmps69
  go_wp2
  exact ⟨rfl, .tuple #[], by simp [results, Try.results69], rfl, rfl⟩
end Go.Proofs.Ytmaaljfcnnlnpaa
