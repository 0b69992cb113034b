/-
  The walks of an entry: is it right; the document's entry and the program's.
-/
import Derived.Test.YtmaaljfcnnlnpaaState5
namespace Go.Proofs.Ytmaaljfcnnlnpaa
open Go.RowKit

theorem cast_beq0 (n : Nat) : ((n : Int) == 0) = (n == 0) := by
  rcases n with _ | n
  · rfl
  · rw [show ((n + 1 : Nat) : Int) = (n : Int) + 1 from rfl, show (n + 1 == 0) = false from rfl, beq_eq_false_iff_ne]
    omega
theorem info50 : (Try.prog.info? 50).map (·.size) = some 3 := by kernel_rfl
theorem info47 : (Try.prog.info? 47).map (·.size) = some 3 := by kernel_rfl
theorem new2_heap (W : World) (o p : Obj) : ((W.alloc o).alloc p).heap[W.heap.size + 1]? = some p := by
  have := heap_alloc_new (W.alloc o) p
  rwa [show (W.alloc o).heap.size = W.heap.size + 1 by simp] at this
theorem new2_below (W : World) (o p : Obj) : Below W.heap.size W ((W.alloc o).alloc p) := ((Below.refl _ _).alloc (Nat.le_refl _) _).alloc (by simp) _

/-- Is an entry right? -/
def entR (k : Int) (L : List UInt8) : Bool := if k = 1 then decide (10 ≤ L.length) && decide (L.length ≤ 32) else if k = 2 then L == [] else if k = 3 then stErr L == 0 else false

set_option maxRecDepth 100000 in
set_option maxHeartbeats 4000000 in
theorem eright (k : Int) (st : Nat) (L : List UInt8) (hL : L.length ≤ maxLen) (W : World) :
    Calls Try.prog 84 #[.agg #[.int .i64 k, .int .u32 st, .string ⟨L.toArray⟩]] W fun r w' => r = .returned (.bool (entR k L)) ∧ Below W.heap.size W w' := by
  have hsz : (⟨L.toArray⟩ : ByteArray).size = L.length := rfl
  have HB := Lib.hid (fun t => (Below.refl W.heap.size W).alloc (Nat.le_refl _) (.cells #[.int .i64 k, .int .u32 st, .string ⟨L.toArray⟩] t))
  by_cases h1 : k = 1
  · subst h1
    have HE := Lib.hid (show entR 1 L = (decide (10 ≤ L.length) && decide (L.length ≤ 32)) from if_pos rfl)
    by_cases h2 : 10 ≤ L.length
    · by_cases h3 : L.length ≤ 32
      · have HE := Lib.hid (show entR 1 L = true by rw [HE.out, decide_eq_true h2, decide_eq_true h3]; rfl)
        go_enter Try.func84, Try.ntmps84
        go_wp2_with fail
        go_ret
        exact ⟨by rw [HE.out]; simp [] <;> omega, HB.out _⟩
      · have HE := Lib.hid (show entR 1 L = false by rw [HE.out, decide_eq_false h3]; simp)
        go_enter Try.func84, Try.ntmps84
        go_wp2_with fail
        go_ret
        exact ⟨by rw [HE.out]; simp [] <;> omega, HB.out _⟩
    · have HE := Lib.hid (show entR 1 L = false by rw [HE.out, decide_eq_false h2]; simp)
      go_enter Try.func84, Try.ntmps84
      go_wp2_with fail
      go_ret
      exact ⟨by rw [HE.out]; simp [] <;> omega, HB.out _⟩
  · by_cases h2 : k = 2
    · subst h2
      have HE := Lib.hid (show entR 2 L = (L == []) from (if_neg (by decide)).trans (if_pos rfl))
      go_enter Try.func84, Try.ntmps84
      go_wp2_with fail
      go_ret
      exact ⟨by rw [HE.out]; cases L <;> rfl, HB.out _⟩
    · by_cases h3 : k = 3
      · subst h3
        have HE := Lib.hid (show entR 3 L = (stErr L == 0) from (if_neg (by decide)).trans ((if_neg (by decide)).trans (if_pos rfl)))
        have SRD := Lib.hid (fun X => sread L hL X)
        go_enter Try.func84, Try.ntmps84
        go_wp2_with fail
        refine (SRD.out _).mono ?_
        rintro r w1 ⟨F, rfl, hb⟩
        have HW := Lib.hid ((HB.out _).trans (hb.mono (by simp)))
        clear hb SRD
        go_wp2_with (first
          | (refine wpList_alloc169 (by rfl) (by rfl) ?_)
          | (refine wpList_store169 (by rfl) (.tmp 3) (.tmp 30) (by rfl) w1.heap.size F ?_ ?_ ?_ ?_; exact there_alloc169 w1 _; rfl; rfl))
        go_ret
        exact ⟨by rw [HE.out, ← cast_beq0]; rfl, below_setCells HW.out.size _ _ _ (HW.out.alloc HW.out.size _)⟩
      · have HE := Lib.hid (show entR k L = false from (if_neg h1).trans ((if_neg h2).trans (if_neg h3)))
        have b1 : (k == 1) = false := by rw [beq_eq_false_iff_ne]; exact h1
        have b2 : (k == 2) = false := by rw [beq_eq_false_iff_ne]; exact h2
        have b3 : (k == 3) = false := by rw [beq_eq_false_iff_ne]; exact h3
        go_enter Try.func84, Try.ntmps84
        go_wp2_with fail
        go_ret
        exact ⟨by rw [HE.out]; rfl, HB.out _⟩

set_option maxRecDepth 100000 in
set_option maxHeartbeats 2000000 in
theorem of_any (k : Int) (st : Nat) (s : ByteArray) (W : World) : Calls Try.prog 42 #[.agg #[.int .i64 k, .int .u32 st, .string s]] W fun r w' => r = .returned (.agg #[.int .i64 k, .int .u32 st, .string s]) ∧ Below W.heap.size W w' := by
  go_enter Try.func42, Try.ntmps42
  go_wp2_with fail
  exact bodyPost_ret (results_cell1 (p := 2) (ty := 50) rfl _ _ ⟨W.heap.size + 1, 0, none⟩ _ rfl (run_loadVar_row _ _ 50 50 _ (0, 0) _ (new2_heap _ _ _) Try.underlying50 rfl (by rw [info50]; rfl))) rfl ⟨rfl, new2_below _ _ _⟩

set_option maxRecDepth 100000 in
set_option maxHeartbeats 2000000 in
theorem eplain_any (k : Int) (st : Nat) (s : ByteArray) (W : World) : Calls Try.prog 47 #[.agg #[.int .i64 k, .int .u32 st, .string s]] W fun r w' => r = .returned (.agg #[.int .i64 k, .int .u32 st, .string s]) ∧ Below W.heap.size W w' := by
  go_enter Try.func47, Try.ntmps47
  go_wp2_with fail
  exact bodyPost_ret (results_cell1 (p := 2) (ty := 47) rfl _ _ ⟨W.heap.size + 1, 0, none⟩ _ rfl (run_loadVar_row _ _ 47 47 _ (0, 0) _ (new2_heap _ _ _) Try.underlying47 rfl (by rw [info47]; rfl))) rfl ⟨rfl, new2_below _ _ _⟩

theorem four1_ne : (⟨(four 1).toArray⟩ : ByteArray).toList.isEmpty = false := by decide +kernel

set_option maxRecDepth 100000 in
set_option maxHeartbeats 2000000 in
theorem goes_any (W : World) : Calls Try.prog 40 #[] W fun r w' => r = .returned (.bool true) ∧ Below W.heap.size W w' := by
  have S := Lib.hid (fun X => sum_any ⟨#[49, 50, 51, 52, 53, 54, 55, 56, 57]⟩ (by decide) X)
  have e : CrcP.sum (⟨#[49, 50, 51, 52, 53, 54, 55, 56, 57]⟩ : ByteArray).data.toList = 3808858755 := sum_example
  rw [e] at S
  have F4 := Lib.hid (fun X => four_any 1 (by decide) X)
  have hne := four1_ne
  generalize (⟨(four 1).toArray⟩ : ByteArray) = f4 at *
  clear e
  go_enter Try.func40, Try.ntmps40
  go_wp2_with fail
  refine (S.out _).mono ?_
  rintro r w1 ⟨rfl, hb⟩
  have HB := Lib.hid hb
  clear hb
  go_wp2_with fail
  refine (F4.out _).mono ?_
  rintro r w2 ⟨rfl, hb⟩
  have HB := Lib.hid (HB.out.trans (hb.mono HB.out.size))
  clear hb
  go_wp2_with fail
  go_ret
  exact ⟨by simp [], HB.out⟩
end Go.Proofs.Ytmaaljfcnnlnpaa
