/-
  The walks of disk.New and of a disk's Read.
-/
import Derived.Test.YtmaaljfcnnlnpaaDiskWalk1
namespace Go.Proofs.Ytmaaljfcnnlnpaa
open Go.RowKit

def Dk.new (n : Int) : Dk := ⟨n, fun _ => zero64, [], false, -1, fun _ => 0⟩

theorem DkAt.start (w : World) (n : Int) (t : TypeId) :
    DkAt (((w.alloc (.map #[] 0)).alloc (.map #[] 0)).alloc (.cells #[.int .i64 n, .map (some w.heap.size), .slice none 0 0, .bool false, .int .i64 (-1), .map (some (w.heap.size + 1))] t)) (w.heap.size + 1 + 1) w.heap.size (w.heap.size + 1) (.slice none 0 0) (Dk.new n) := by
  have e1 : (w.alloc (.map #[] 0)).heap.size = w.heap.size + 1 := by simp
  have e2 : ((w.alloc (.map #[] 0)).alloc (.map #[] 0)).heap.size = w.heap.size + 1 + 1 := by simp
  have a1 := MapAt.made w
  have a2 := MapAt.made (w.alloc (.map #[] 0))
  rw [e1] at a2
  have b : ∀ (W : World) o k, k < W.heap.size → (W.alloc o).heap[k]? = W.heap[k]? := fun W o k h => Below.heap_alloc W o k h
  have a1' : MapAt (((w.alloc (.map #[] 0)).alloc (.map #[] 0)).alloc (.cells #[.int .i64 n, .map (some w.heap.size), .slice none 0 0, .bool false, .int .i64 (-1), .map (some (w.heap.size + 1))] t)) w.heap.size (fun _ => none) :=
    (a1.of_block (b _ _ _ (by rw [e1]; omega))).of_block (b _ _ _ (by rw [e2]; omega))
  have a2' : MapAt (((w.alloc (.map #[] 0)).alloc (.map #[] 0)).alloc (.cells #[.int .i64 n, .map (some w.heap.size), .slice none 0 0, .bool false, .int .i64 (-1), .map (some (w.heap.size + 1))] t)) (w.heap.size + 1) (fun _ => none) :=
    a2.of_block (b _ _ _ (by rw [e2]; omega))
  have c : ∀ i, (((w.alloc (.map #[] 0)).alloc (.map #[] 0)).alloc (.cells #[.int .i64 n, .map (some w.heap.size), .slice none 0 0, .bool false, .int .i64 (-1), .map (some (w.heap.size + 1))] t)).cell? ⟨w.heap.size + 1 + 1, i, none⟩ =
      #[Value.int .i64 n, .map (some w.heap.size), .slice none 0 0, .bool false, .int .i64 (-1), .map (some (w.heap.size + 1))][i]? := fun i => by
    rw [← e2, World.cell?_alloc_new]
  have f : ∀ i, (((w.alloc (.map #[] 0)).alloc (.map #[] 0)).alloc (.cells #[.int .i64 n, .map (some w.heap.size), .slice none 0 0, .bool false, .int .i64 (-1), .map (some (w.heap.size + 1))] t)).frozen? ⟨w.heap.size + 1 + 1, i, none⟩ = false := fun i => by
    rw [← e2]; exact World.frozen?_alloc_new _ _ _ _
  exact ⟨(c 0).trans rfl, (c 1).trans rfl, (c 2).trans rfl, (c 3).trans rfl, (c 4).trans rfl, (c 5).trans rfl, f, ⟨_, a1', fun _ => rfl⟩, ⟨_, a2', fun _ => rfl⟩, ⟨rfl, .inl ⟨rfl, rfl⟩⟩, by omega, by omega, by simp, ⟨fun _ => rfl, fun x hx => by cases hx⟩⟩

set_option maxRecDepth 100000 in
set_option maxHeartbeats 2000000 in
theorem new_any (n : Int) (h1 : 1 ≤ n) (h2 : n ≤ 1024) (w : World) :
    Calls Try.prog 53 #[.int .i64 n] w fun r w' => ∃ d m1 m2, r = .returned (.tuple #[.pointer (some ⟨d, 0, none⟩), .int .i64 0]) ∧ DkAt w' d m1 m2 (.slice none 0 0) (Dk.new n) ∧ Below w.heap.size w w' ∧ w.heap.size ≤ m1 := by
  have S := Lib.hid (fun t => DkAt.start w n t)
  have hmm := @run_makeMap Try.prog
  have hb : ∀ (W : World) x, w.heap.size ≤ W.heap.size → Below w.heap.size W (W.alloc x) := fun W x h => (Below.refl _ _).alloc h x
  have HB := Lib.hid hb
  clear hb
  go_enter Try.func53, Try.ntmps53
  go_wp2
  refine bodyPost_ret (v := .tuple #[.pointer (some ⟨w.heap.size + 1 + 1, 0, none⟩), .int .i64 0]) (by simp [results, Try.results53, go_sem]) rfl ⟨_, _, _, rfl, S.out _, ?_, Nat.le_refl _⟩
  exact ((HB.out _ _ (Nat.le_refl _)).trans (HB.out _ _ (by simp))).trans (HB.out _ _ (by simp; omega))

set_option maxRecDepth 100000 in
set_option maxHeartbeats 2000000 in
theorem new_no (n : Int) (h : n < 1 ∨ 1024 < n) (w : World) : Calls Try.prog 53 #[.int .i64 n] w fun r w' => r = .returned (.tuple #[.pointer none, .int .i64 1]) ∧ w = w' := by
  by_cases h1 : n < 1
  · go_enter Try.func53, Try.ntmps53
    go_wp2
    exact bodyPost_ret (v := .tuple #[.pointer none, .int .i64 1]) (by simp [results, Try.results53, go_sem]) rfl ⟨rfl, rfl⟩
  · have h2 : 1024 < n := by omega
    go_enter Try.func53, Try.ntmps53
    go_wp2
    exact bodyPost_ret (v := .tuple #[.pointer none, .int .i64 1]) (by simp [results, Try.results53, go_sem]) rfl ⟨rfl, rfl⟩
end Go.Proofs.Ytmaaljfcnnlnpaa
