/-
  The walks of Plain and of the law's 'awake'.
-/
import Derived.Test.YtmaaljfcnnlnpaaFragWalk3
namespace Go.Proofs.Ytmaaljfcnnlnpaa
open Go.RowKit

set_option maxRecDepth 100000 in
set_option maxHeartbeats 1000000 in
theorem plain_any (e n : Nat) (k : Int) (f l : Bool) (d : ByteArray) (w : World) :
    Calls Try.prog 39 #[.agg #[.int .u32 e, .int .u32 n, .int .i64 k, .bool f, .bool l, .string d]] w fun r w' => r = .returned (.agg #[.int .u32 e, .int .u32 n, .int .i64 k, .bool f, .bool l, .string d]) ∧ Below w.heap.size w w' := by
  go_enter Try.func39, Try.ntmps39
  go_wp2
  refine bodyPost_ret (v := .agg #[.int .u32 e, .int .u32 n, .int .i64 k, .bool f, .bool l, .string d]) (by simp [results, Try.results39, go_sem]) rfl ⟨rfl, ?_⟩
  exact ((Below.refl _ _).alloc (Nat.le_refl _) _).alloc (by simp) _

/-- The cell at place j of what a slice owns. -/
theorem own_cell {w : World} {base : Nat} {e : TypeId} {size : Nat} {g n cap : Nat} {xs : List Value} (h : w.ownsRow base e size (.slice (some ⟨g, 0, none⟩) n cap) n xs) (j : Nat) (u : Value) (hj : xs[j]? = some u) :
    w.cell? ⟨g, j, none⟩ = some u := by
  have := h.cells (g := g) rfl j u hj
  rw [addr_add, Nat.zero_add] at this
  exact this

def z50 : List UInt8 := List.replicate 50 0

set_option maxRecDepth 100000 in
set_option maxHeartbeats 1000000 in
theorem awake18 (w : World) : Calls Try.prog 36 #[] w fun e w' => e = .returned (.bool true) ∧ Below w.heap.size w w' := by
  have hmk : ∀ w : World, (Instr.makeSlice 25 (.int .i64 50) (.int .i64 50)).run Try.prog w = .ok (.slice (some ⟨w.heap.size, 0, none⟩) 50 50) (w.alloc (.cells (z50.map bv).toArray 5)) := fun _ => by kernel_rfl
  have hconv : (convert 25 9 (.slice (some ⟨w.heap.size, 0, none⟩) 50 50)).run Try.prog (w.alloc (.cells (z50.map bv).toArray 5)) = .ok (.string ⟨z50.toArray⟩) (w.alloc (.cells (z50.map bv).toArray 5)) := by
    refine run_bytes_str (bs := z50) (fun j hj => ?_) rfl
    rw [Nat.zero_add, World.cell?_alloc_new]
    simp [hj]
  have hB0 : Below w.heap.size w (w.alloc (.cells (z50.map bv).toArray 5)) := (Below.refl _ _).alloc (Nat.le_refl _) _
  have C := Lib.hid (fun W => cut_yes 1 ⟨z50.toArray⟩ (by decide) (by decide) W)
  have P := Lib.hid (fun W => pages_any 50 (by decide) W)
  go_enter Try.func36, Try.ntmps36
  go_wp2_with fail
  refine (C.out _).mono ?_
  rintro e w1 ⟨v, rfl, hrow, hb⟩
  have hb := hB0.trans (hb.mono hB0.size)
  have h2 : cnt (⟨z50.toArray⟩ : ByteArray).size = 2 := rfl
  rw [h2] at hrow
  obtain ⟨g, cap, rfl, hg1, hg2⟩ := hrow.form (by decide)
  have k1 := own_cell hrow 3 (.bool true) rfl
  have k2 := own_cell hrow 10 (.bool true) rfl
  clear hrow h2
  go_wp2_with fail
  refine (P.out _).mono ?_
  rintro e w2 ⟨rfl, rfl⟩
  go_wp2_with fail
  go_ret
  exact ⟨rfl, hb⟩
end Go.Proofs.Ytmaaljfcnnlnpaa
