/-
  The walk of the law SegNeeds.
-/
import Derived.Test.YtmaaljfcnnlnpaaSegLaw0
namespace Go.Proofs.Ytmaaljfcnnlnpaa
open Go.RowKit

set_option maxHeartbeats 1000000 in
theorem need_no (at_ n : Nat) (hn : n < 1000000) (h : n < 1 ∨ 4096 < n) (W : World) :
    Calls Try.prog 73 #[.int .i64 at_, .int .i64 n] W fun r w' => r = .returned (.int .i64 0) ∧ W = w' := by
  have PG := Lib.hid (fun W => pages_any n (by omega) W)
  have hp : pagesP n = 0 := by unfold pagesP; rw [if_pos (by omega)]
  rw [hp] at PG
  clear hp h
  go_enter Try.func73, Try.ntmps73
  go_wp2_with fail
  refine (PG.out _).mono ?_
  rintro r w1 ⟨rfl, rfl⟩
  go_wp2_with fail
  go_ret
  exact ⟨rfl, rfl⟩

set_option maxRecDepth 100000 in
set_option maxHeartbeats 4000000 in
theorem segNeeds_walk (n0 n1 n2 : Nat) (b0 : n0 < 65536) (b1 : n1 < 65536) (b2 : n2 < 65536) (w : World) :
    Calls Try.prog 24 #[.int .u16 n0, .int .u16 n1, .int .u16 n2] w fun r w' => r = .returned (.bool true) ∧ Below w.heap.size w w' := by
  have A := Lib.hid (fun W => awake19 W)
  go_enter Try.func24, Try.ntmps24
  go_wp2_with fail
  refine (A.out _).mono ?_
  rintro r w1 ⟨rfl, hb⟩
  have HB := Lib.hid hb
  clear hb A
  go_wp2_with fail
  obtain ⟨a, ha, ha2⟩ : ∃ a : Nat, (n0 : Int) % 900 = a ∧ a < 900 := ⟨n0 % 900, by omega, by omega⟩
  obtain ⟨x, hx, hx1, hx2⟩ : ∃ x : Nat, 1 + (n1 : Int) % 4096 = x ∧ 1 ≤ x ∧ x ≤ 4096 := ⟨1 + n1 % 4096, by omega, by omega, by omega⟩
  obtain ⟨y, hy, hy1, hy2⟩ : ∃ y : Nat, 1 + (n2 : Int) % 4096 = y ∧ 1 ≤ y ∧ y ≤ 4096 := ⟨1 + n2 % 4096, by omega, by omega, by omega⟩
  rw [ha, hx, hy]
  have N1 := Lib.hid (fun W => need_eq a x (by omega) hx1 hx2 W)
  have hcx : 0 < cnt x ∧ cnt x ≤ 84 := by unfold cnt; omega
  have hcy : 0 < cnt y ∧ cnt y ≤ 84 := by unfold cnt; omega
  have hm1 := layLen_le (cnt x) a
  have hm0 := layLen_pos a (cnt x) hcx.1
  have hnd := layLen_needs (cnt x) a
  have N2 := Lib.hid (fun W => need_eq (a + layLen a (cnt x)) y (by omega) hy1 hy2 W)
  have hm2 := layLen_pos (a + layLen a (cnt x)) (cnt y) hcy.1
  have hm3 := layLen_le (cnt y) (a + layLen a (cnt x))
  have N3 := Lib.hid (fun W => need_no a 0 (by decide) (by decide) W)
  have N4 := Lib.hid (fun W => need_no a 4097 (by decide) (by decide) W)
  generalize layLen (a + layLen a (cnt x)) (cnt y) = m2 at *
  generalize layLen a (cnt x) = m at *
  have hlast := hnd.2 hm0
  have hcnt : ((m : Int) == ((x : Int) + 48) / 49 + (hds a m : Nat)) = true := by
    have h1 := hnd.1
    unfold cnt at h1
    rw [beq_iff_eq]
    omega
  have hlb : ((((a : Int) + m - 1) % 16) != 0) = true := by rw [bne_iff_ne]; omega
  have hgt1 : decide ((0 : Int) < (m : Int)) = true := by simp; omega
  have hgt2 : decide ((0 : Int) < (m2 : Int)) = true := by simp; omega
  have hm200 : m ≤ 200 := by omega
  have hm2200 : m2 ≤ 200 := by omega
  have HC := Lib.hid hcnt
  have HDS := Lib.hid (hds_le a)
  clear ha hx hy hnd hlast hcnt hcx hcy
  refine (N1.out _).mono ?_
  rintro r w2 ⟨rfl, rfl⟩
  clear N1
  go_wp2_with fail
  go_loop [11, 12, 31, 32, 33, 34, 35, 36, 37, 38, 39, 40, 41, 42] (fun a11 a12 _ _ _ _ _ _ _ _ _ _ _ _ => ∃ j : Nat, j ≤ m ∧ a12 = .int .i64 ((a + j : Nat) : Int) ∧ a11 = .int .i64 (hds a j : Nat)) (fun _ a12 _ _ _ _ _ _ _ _ _ _ _ _ => m + a - (intOf a12).toNat)
  case atStart => exact ⟨0, by omega, rfl, rfl⟩
  case round =>
    obtain ⟨j, hj, rfl, rfl⟩ := hrel
    have hdj := HDS.out j
    by_cases hlt : j < m
    · have hst : hds a (j + 1) = hds a j + if (a + j) % 16 = 0 then 1 else 0 := rfl
      by_cases h16 : (a + j) % 16 = 0
      · rw [if_pos h16] at hst
        have h16b : ((((a + j : Nat) : Int) % 16) == 0) = true := by rw [beq_iff_eq]; omega
        have HF := Lib.hid hst
        clear hst h16
        go_wp2_with fail
        exact ⟨⟨j + 1, by omega, by rw [show ((a : Int) + j + 1) = ((a + (j + 1) : Nat) : Int) by omega], by rw [HF.out]; simp⟩, by simp only [intOf]; omega⟩
      · rw [if_neg h16] at hst
        have h16b : ((((a + j : Nat) : Int) % 16) == 0) = false := by rw [beq_eq_false_iff_ne]; omega
        have HF := Lib.hid hst
        clear hst h16
        go_wp2_with fail
        exact ⟨⟨j + 1, by omega, by rw [show ((a : Int) + j + 1) = ((a + (j + 1) : Nat) : Int) by omega], by rw [HF.out]; simp⟩, by simp only [intOf]; omega⟩
    · have hje : j = m := by omega
      subst hje
      have hcnt := HC.out
      have hdj := HDS.out j
      go_wp2_with fail
      rw [show ((a : Int) + j) = ((a + j : Nat) : Int) by omega]
      refine (N2.out _).mono ?_
      rintro r w2 ⟨rfl, rfl⟩
      have hlb2 : ((((a + j : Nat) : Int) - 1) % 16 != 0) = true := by rw [bne_iff_ne]; rw [bne_iff_ne] at hlb; omega
      go_wp2_with fail
      refine (N3.out _).mono ?_
      rintro r w2 ⟨rfl, rfl⟩
      go_wp2_with fail
      refine (N4.out _).mono ?_
      rintro r w2 ⟨rfl, rfl⟩
      go_wp2_with fail
      go_ret
      exact ⟨rfl, HB.out⟩
end Go.Proofs.Ytmaaljfcnnlnpaa
