/-
  The walk of state.Right.
-/
import Derived.Test.YtmaaljfcnnlnpaaState3
namespace Go.Proofs.Ytmaaljfcnnlnpaa
open Go.RowKit

/-- Numbers, as cells. -/
def inl (n : Nat) (xs : Nat → Int) : List Value := (List.range n).map fun i => Value.int .i64 (xs i)
theorem inl_length (n : Nat) (xs : Nat → Int) : (inl n xs).length = n := by simp [inl]
theorem inl_get (n : Nat) (xs : Nat → Int) (i : Nat) (h : i < n) : (inl n xs)[i]? = some (.int .i64 (xs i)) := by simp [inl, h]
theorem inl_range {W : World} {g o n : Nat} {xs : Nat → Int} (h : ∀ i, i < n → W.cell? ⟨g, o + i, none⟩ = some (.int .i64 (xs i))) : W.rangeAt g o (inl n xs) := fun j v hv => by
  have hj : j < n := by rw [← inl_length n xs]; exact (List.getElem?_eq_some_iff.1 hv).1
  rw [inl_get n xs j hj] at hv
  cases hv
  exact h j hj
theorem inl_one (n : Nat) (xs : Nat → Int) : ∀ v ∈ inl n xs, v.oneCell' = true := fun v hv => by
  obtain ⟨i, _, rfl⟩ := List.mem_map.1 hv
  rfl
theorem info3s : (Try.prog.info? 3).map (·.size) = some 1 := by kernel_rfl
theorem run_ix (t : TypeId) (n : Nat) (xs : Nat → Int) (k : Nat) (h : Try.prog.underlying t = some (.array n 3)) (hk : k < n) (W : World) :
    (Instr.index t (.agg (inl n xs).toArray) (.int .i64 (k : Int))).run Try.prog W = .ok (.int .i64 (xs k)) W := by
  have hn : (0 : Int) ≤ (k : Int) ∧ (k : Int) < (n : Int) := by omega
  have hg := inl_get n xs k hk
  have h3 := info3s
  cases hi : Try.prog.info? 3 with
  | none => rw [hi] at h3; cases h3
  | some i =>
    rw [hi] at h3
    have h1 : i.size = 1 := by simpa using h3
    simp [Instr.index, run_underlying h, run_underlying Try.underlying3, asIntOf, hk, go_sem, sizeOf, typeInfo, hi, h1, part, isAgg, hg]

def stOk (F : Nat → Int) : Bool := (List.range 16).all (fun i => fit 2147483647 (F i)) && (List.range 4).all (fun i => decide (0 ≤ F (17 + i)) && decide (F (17 + i) ≤ 20)) && (fit 2097151 (F 16) && held (fun i => F (21 + i)) && decide (0 ≤ F 37) && decide (F 37 ≤ 255))

theorem info166 : (Try.prog.info? 166).map (·.size) = some 16 := by kernel_rfl
theorem info167 : (Try.prog.info? 167).map (·.size) = some 4 := by kernel_rfl

theorem stOk_mem {F : Nat → Int} (h : stOk F = true) : (∀ i, i < 16 → fit 2147483647 (F i) = true) ∧ (∀ i, i < 4 → 0 ≤ F (17 + i) ∧ F (17 + i) ≤ 20) ∧ fit 2097151 (F 16) = true ∧ held (fun i => F (21 + i)) = true ∧ 0 ≤ F 37 ∧ F 37 ≤ 255 := by
  unfold stOk at h
  simp only [Bool.and_eq_true, List.all_eq_true, List.mem_range, decide_eq_true_eq] at h
  exact ⟨h.1.1, h.1.2, h.2.1.1.1, h.2.1.1.2, h.2.1.2, h.2.2⟩
theorem stOk_no1 {F : Nat → Int} (i : Nat) (hi : i < 16) (h : fit 2147483647 (F i) = false) : stOk F = false := by
  rcases Bool.eq_false_or_eq_true (stOk F) with e | e
  · have := (stOk_mem e).1 i hi
    rw [h] at this; cases this
  · exact e
theorem stOk_no2 {F : Nat → Int} (i : Nat) (hi : i < 4) (h : F (17 + i) < 0 ∨ 20 < F (17 + i)) : stOk F = false := by
  rcases Bool.eq_false_or_eq_true (stOk F) with e | e
  · have := (stOk_mem e).2.1 i hi
    omega
  · exact e
theorem stOk_end {F : Nat → Int} (h1 : ∀ i, i < 16 → fit 2147483647 (F i) = true) (h2 : ∀ i, i < 4 → 0 ≤ F (17 + i) ∧ F (17 + i) ≤ 20) : stOk F = (fit 2097151 (F 16) && held (fun i => F (21 + i)) && decide (0 ≤ F 37) && decide (F 37 ≤ 255)) := by
  unfold stOk
  have e1 : (List.range 16).all (fun i => fit 2147483647 (F i)) = true := by
    rw [List.all_eq_true]; exact fun i hi => h1 i (List.mem_range.1 hi)
  have e2 : (List.range 4).all (fun i => decide (0 ≤ F (17 + i)) && decide (F (17 + i) ≤ 20)) = true := by
    rw [List.all_eq_true]
    intro i hi
    have := h2 i (List.mem_range.1 hi)
    simp [this]
  rw [e1, e2, Bool.true_and, Bool.true_and]

theorem cell_in {w : World} {a : Addr} {v : Value} (h : w.cell? a = some v) : a.block < w.heap.size := by
  unfold World.cell? at h
  split at h
  · rename_i h2
    exact (Array.getElem?_eq_some_iff.1 h2).1
  · cases h
theorem cell_step {W W' : World} {a : Addr} {v : Value} (h : W.cell? a = some v) (hb : Below W.heap.size W W') : W'.cell? a = some v := (hb.cell (cell_in h)).trans h

/-- A state in memory. -/
structure SX (W X : World) (g : Nat) (F : Nat → Int) : Prop where
  cell : ∀ j, j < 38 → X.cell? ⟨g, j, none⟩ = some (.int .i64 (F j))
  below : Below W.heap.size W X
theorem SX.range {W X : World} {g : Nat} {F : Nat → Int} (h : SX W X g F) (o n : Nat) (ho : o + n ≤ 38) : X.rangeAt g o (inl n (fun i => F (o + i))) := inl_range (fun i hi => h.cell (o + i) (by omega))
theorem SX.start (W : World) (F : Nat → Int) : SX W (W.alloc (.cells (inl 38 F).toArray 169)) W.heap.size F :=
  ⟨fun j hj => by
    rw [World.cell?_alloc_new]
    simpa using inl_get 38 F j hj, (Below.refl _ _).alloc (Nat.le_refl _) _⟩

set_option maxRecDepth 100000 in
set_option maxHeartbeats 4000000 in
theorem sright (F : Nat → Int) (W : World) : Calls Try.prog 109 #[.agg (inl 38 F).toArray] W fun r w' => r = .returned (.bool (stOk F)) ∧ Below W.heap.size W w' := by
  have HF0 := Lib.hid (fun i X => fits32_any (F i) X)
  have HF1 := Lib.hid (fun X => fits22_any (F 16) X)
  have HH := Lib.hid (fun X => held_any (fun i => F (21 + i)) (.agg (inl 16 (fun i => F (21 + i))).toArray) rfl X)
  have HN1 := Lib.hid (@stOk_no1 F)
  have HN2 := Lib.hid (@stOk_no2 F)
  have HE := Lib.hid (@stOk_end F)
  generalize stOk F = ok at *
  go_enter Try.func109, Try.ntmps109
  go_upto_region 1 with fail
  refine wp_gate (fun X => SX W X W.heap.size F) (SX.start W F) ?_
  intro X hX
  have HX := Lib.hid hX
  have c16 := hX.cell 16 (by decide)
  have c37 := hX.cell 37 (by decide)
  clear hX
  have HR := Lib.hid (show X.rangeAt W.heap.size 0 (inl 16 F) from inl_range (fun i hi => by rw [Nat.zero_add]; exact HX.out.cell i (by omega)))
  go_wp2_with (refine wpList_load_mid (by rfl) 166 (.tmp 7) (by rfl) W.heap.size 0 (by rfl) (inl 16 F) _ ?_ Try.underlying166 rfl (by rw [info166, inl_length]) ?_; exact HR.out)
  go_loop [4, 9, 10, 11, 12, 13, 14, 15] (fun _ a9 _ _ _ _ _ _ => ∃ k : Nat, k ≤ 16 ∧ a9 = .int .i64 k ∧ (∀ i, i < k → fit 2147483647 (F i) = true)) (fun _ a9 _ _ _ _ _ _ => 16 - (intOf a9).toNat)
  case atStart => exact ⟨0, by omega, rfl, fun i hi => by omega⟩
  case round =>
    obtain ⟨k, hk, rfl, hb⟩ := hrel
    have HB := Lib.hid hb
    clear hb
    by_cases hlt : k < 16
    · have hix := run_ix 166 16 F k Try.underlying166 hlt
      go_wp2_with fail
      refine (HF0.out k _).mono ?_
      rintro e w1 ⟨rfl, rfl⟩
      rcases Bool.eq_false_or_eq_true (fit 2147483647 (F k)) with hbx | hbx
      · rw [hbx]
        have HBX := Lib.hid hbx
        clear hbx hix
        go_wp2_with fail
        refine ⟨⟨k + 1, by omega, by simp, fun i hi => ?_⟩, by simp only [intOf]; omega⟩
        by_cases hik : i = k
        · subst hik; exact HBX.out
        · exact HB.out i (by omega)
      · rw [hbx]
        have HBX := Lib.hid hbx
        clear hbx hix
        go_wp2_with fail
        go_ret
        exact ⟨by rw [HN1.out k hlt HBX.out]; rfl, HX.out.below⟩
    · obtain rfl : k = 16 := by omega
      have HR := Lib.hid (HX.out.range 17 4 (by decide))
      go_wp2_with (refine wpList_load_mid (by rfl) 167 (.tmp 16) (by rfl) W.heap.size 17 (by rfl) (inl 4 (fun i => F (17 + i))) _ ?_ Try.underlying167 rfl (by rw [info167, inl_length]) ?_; exact HR.out)
      go_loop [6, 18, 19, 20, 21, 22, 23, 24, 25, 26, 27] (fun _ a18 _ _ _ _ _ _ _ _ _ => ∃ k : Nat, k ≤ 4 ∧ a18 = .int .i64 k ∧ (∀ i, i < k → 0 ≤ F (17 + i) ∧ F (17 + i) ≤ 20)) (fun _ a18 _ _ _ _ _ _ _ _ _ => 4 - (intOf a18).toNat)
      case atStart => exact ⟨0, by omega, rfl, fun i hi => by omega⟩
      case round =>
        obtain ⟨k, hk, rfl, hb⟩ := hrel
        have HB2 := Lib.hid hb
        clear hb
        by_cases hlt : k < 4
        · have hix := run_ix 167 4 (fun i => F (17 + i)) k Try.underlying167 hlt
          have HY := Lib.hid (HN2.out k hlt)
          have HZ : Hid (0 ≤ F (17 + k) ∧ F (17 + k) ≤ 20 → ∀ i, i < k + 1 → 0 ≤ F (17 + i) ∧ F (17 + i) ≤ 20) := Lib.hid fun h i hi => by
            by_cases hik : i = k
            · subst hik; exact h
            · exact HB2.out i (by omega)
          obtain ⟨x, hx⟩ : ∃ x, F (17 + k) = x := ⟨_, rfl⟩
          rw [hx] at HY HZ hix
          clear hx
          by_cases h1 : x < 0
          · go_wp2_with fail
            go_ret
            exact ⟨by rw [HY.out (.inl h1)]; rfl, HX.out.below⟩
          · by_cases h2 : 20 < x
            · go_wp2_with fail
              go_ret
              exact ⟨by rw [HY.out (.inr h2)]; rfl, HX.out.below⟩
            · have h3 : ¬ x < 0 := h1
              go_wp2_with fail
              exact ⟨⟨k + 1, by omega, by simp, HZ.out (by omega)⟩, by simp only [intOf]; omega⟩
        · obtain rfl : k = 4 := by omega
          have HEQ := Lib.hid (HE.out HB.out HB2.out)
          have HR := Lib.hid (HX.out.range 21 16 (by decide))
          generalize fit 2097151 (F 16) = b1 at *
          generalize held (fun i => F (21 + i)) = b2 at *
          obtain ⟨x, hx⟩ : ∃ x, F 37 = x := ⟨_, rfl⟩
          rw [hx] at c37 HEQ
          clear hx
          go_wp2_with fail
          refine (HF1.out _).mono ?_
          rintro e w1 ⟨rfl, rfl⟩
          clear c16
          cases b1 with
          | false =>
            go_wp2_with fail
            go_ret
            exact ⟨by rw [HEQ.out]; rfl, HX.out.below⟩
          | true =>
            go_wp2_with (refine wpList_wanted (by rfl) (wp_load_mid 166 _ (by rfl) W.heap.size 21 (by rfl) (inl 16 (fun i => F (21 + i))) _ ?_ Try.underlying166 rfl (by rw [info166, inl_length]) ?_); exact HR.out)
            refine (HH.out _).mono ?_
            rintro e w2 ⟨rfl, hb⟩
            have HW := Lib.hid (HX.out.below.trans (hb.mono HX.out.below.size))
            have c37 := cell_step c37 hb
            clear hb
            cases b2 with
            | false =>
              go_wp2_with fail
              go_ret
              exact ⟨by rw [HEQ.out]; rfl, HW.out⟩
            | true =>
              by_cases h1 : 0 ≤ x
              · by_cases h2 : x ≤ 255
                · have e1 : decide (0 ≤ x) = true := decide_eq_true h1
                  have e2 : decide (x ≤ 255) = true := decide_eq_true h2
                  have HEQ := Lib.hid (show ok = true by rw [HEQ.out, e1, e2]; rfl)
                  go_wp2_with fail
                  go_ret
                  exact ⟨by rw [HEQ.out]; rfl, HW.out⟩
                · have e2 : decide (x ≤ 255) = false := decide_eq_false h2
                  have HEQ := Lib.hid (show ok = false by rw [HEQ.out, e2]; simp)
                  go_wp2_with fail
                  go_ret
                  exact ⟨by rw [HEQ.out]; rfl, HW.out⟩
              · have e1 : decide (0 ≤ x) = false := decide_eq_false h1
                have HEQ := Lib.hid (show ok = false by rw [HEQ.out, e1]; simp)
                go_wp2_with fail
                go_ret
                exact ⟨by rw [HEQ.out]; rfl, HW.out⟩
end Go.Proofs.Ytmaaljfcnnlnpaa
