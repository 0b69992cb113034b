/-
  The walks of mdct.Held, and of state.Right.
-/
import Derived.Test.YtmaaljfcnnlnpaaState1
namespace Go.Proofs.Ytmaaljfcnnlnpaa
open Go.RowKit

/-- Sixteen numbers in memory. -/
def Ints (W : World) (b o n : Nat) (xs : Nat → Int) : Prop := ∀ i, i < n → W.cell? ⟨b, o + i, none⟩ = some (.int .i64 (xs i))

/-- The first of them that is too great. -/
def firstBig (xs : Nat → Int) (r : Ending) (n : Nat) : Prop := ∃ k : Int, r = .returned (.int .i64 k) ∧ ((∃ i, i < n ∧ big (xs i) = true) → 0 ≤ k) ∧ ((∀ i, i < n → big (xs i) = false) → k = -1)

set_option maxRecDepth 100000 in
set_option maxHeartbeats 4000000 in
theorem indexFunc_any (b o : Nat) (xs : Nat → Int) (W : World) (h : Ints W b o 16 xs) :
    Calls Try.prog 115 #[.slice (some ⟨b, o, none⟩) 16 16, .func (.func 114) #[] #[]] W fun r w' => firstBig xs r 16 ∧ W = w' := by
  have H := Lib.hid h
  clear h
  go_enter Try.func115, Try.ntmps115
  go_wp2_with fail
  go_loop [5, 8, 9, 10, 11, 12, 13, 14, 15, 16, 17, 18] (fun _ a8 _ _ _ _ _ _ _ _ _ _ => ∃ k : Nat, k ≤ 16 ∧ a8 = .int .i64 k ∧ (∀ i, i < k → big (xs i) = false)) (fun _ a8 _ _ _ _ _ _ _ _ _ _ => 16 - (intOf a8).toNat)
  case atStart => exact ⟨0, by omega, rfl, fun i hi => by omega⟩
  case round =>
    obtain ⟨k, hk, rfl, hb⟩ := hrel
    have HB := Lib.hid hb
    clear hb
    by_cases hlt : k < 16
    · have c := H.out k hlt
      obtain ⟨x, hx⟩ : ∃ x, xs k = x := ⟨_, rfl⟩
      have HX := Lib.hid hx
      rw [hx] at c
      clear hx
      go_wp2_with fail
      refine (held1_any x _).mono ?_
      rintro e w1 ⟨rfl, rfl⟩
      rcases Bool.eq_false_or_eq_true (big x) with hbx | hbx
      · rw [hbx]
        have HBX := Lib.hid hbx
        clear hbx
        go_wp2_with fail
        go_ret
        exact ⟨⟨_, rfl, fun _ => by omega, fun h => by
          have := h k hlt
          rw [HX.out, HBX.out] at this
          cases this⟩, rfl⟩
      · rw [hbx]
        have HBX := Lib.hid hbx
        clear hbx
        go_wp2_with fail
        refine ⟨⟨k + 1, by omega, by simp, fun i hi => ?_⟩, by simp only [intOf]; omega⟩
        by_cases hik : i = k
        · subst hik; rw [HX.out]; exact HBX.out
        · exact HB.out i (by omega)
    · obtain rfl : k = 16 := by omega
      go_wp2_with fail
      go_ret
      refine ⟨⟨_, rfl, fun h => ?_, fun _ => rfl⟩, rfl⟩
      obtain ⟨i, hi, hb⟩ := h
      rw [HB.out i hi] at hb
      cases hb

/-- Are they small enough? -/
def held (xs : Nat → Int) : Bool := (List.range 16).all fun i => !big (xs i)

theorem held_no (xs : Nat → Int) (h : held xs = false) : ∃ i, i < 16 ∧ big (xs i) = true := by
  unfold held at h
  rw [List.all_eq_false] at h
  obtain ⟨i, hi, hb⟩ := h
  exact ⟨i, List.mem_range.1 hi, by simpa using hb⟩
theorem held_yes (xs : Nat → Int) (h : held xs = true) (i : Nat) (hi : i < 16) : big (xs i) = false := by
  unfold held at h
  rw [List.all_eq_true] at h
  simpa using h i (List.mem_range.2 hi)

set_option maxRecDepth 100000 in
set_option maxHeartbeats 4000000 in
theorem containsFunc_any (b o : Nat) (xs : Nat → Int) (W : World) (h : Ints W b o 16 xs) :
    Calls Try.prog 113 #[.slice (some ⟨b, o, none⟩) 16 16, .func (.func 114) #[] #[]] W fun r w' => r = .returned (.bool (!held xs)) ∧ W = w' := by
  have I := Lib.hid (indexFunc_any b o xs W h)
  clear h
  go_enter Try.func113, Try.ntmps113
  go_wp2_with fail
  refine I.out.mono ?_
  rintro e w1 ⟨⟨k, rfl, h1, h2⟩, rfl⟩
  rcases Bool.eq_false_or_eq_true (held xs) with hh | hh
  · obtain rfl := h2 (fun i hi => held_yes xs hh i hi)
    have HH := Lib.hid hh
    clear h1 h2 hh
    go_wp2_with fail
    go_ret
    exact ⟨by rw [HH.out]; rfl, rfl⟩
  · have hk := h1 (held_no xs hh)
    have HH := Lib.hid hh
    clear h1 h2 hh
    go_wp2_with fail
    go_ret
    exact ⟨by rw [HH.out]; rfl, rfl⟩

set_option maxRecDepth 100000 in
set_option maxHeartbeats 4000000 in
theorem held_any (xs : Nat → Int) (V : Value) (hV : V = .agg ((List.range 16).map fun i => Value.int .i64 (xs i)).toArray) (W : World) :
    Calls Try.prog 111 #[V] W fun r w' => r = .returned (.bool (held xs)) ∧ Below W.heap.size W w' := by
  have hI : ∀ t, Ints (W.alloc (.cells ((List.range 16).map fun i => Value.int .i64 (xs i)).toArray t)) W.heap.size 0 16 xs := fun t i hi => by
    rw [World.cell?_alloc_new]
    simp [hi]
  have C := Lib.hid (fun t => containsFunc_any _ _ _ _ (hI t))
  have HB := Lib.hid (fun t => (Below.refl W.heap.size W).alloc (Nat.le_refl _) (.cells ((List.range 16).map fun i => Value.int .i64 (xs i)).toArray t))
  subst hV
  obtain ⟨cs, hcs⟩ : ∃ cs, ((List.range 16).map fun i => Value.int .i64 (xs i)).toArray = cs := ⟨_, rfl⟩
  rw [hcs] at C HB ⊢
  clear hcs hI
  go_enter Try.func111, Try.ntmps111
  go_wp2_with fail
  refine (C.out _).mono ?_
  rintro e w1 ⟨rfl, rfl⟩
  go_wp2_with fail
  go_ret
  exact ⟨by simp, HB.out _⟩
end Go.Proofs.Ytmaaljfcnnlnpaa
