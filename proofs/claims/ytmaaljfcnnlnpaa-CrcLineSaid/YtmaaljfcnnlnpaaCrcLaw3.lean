/-
  The walk of the law CrcLine.
-/
import Derived.Test.YtmaaljfcnnlnpaaCrcWalk5
namespace Go.Proofs.Ytmaaljfcnnlnpaa
open Go.RowKit

theorem num_with : ∀ (a b : List UInt8), a.length = b.length → CrcP.num (withL a b) = CrcP.num a ^^^ CrcP.num b
  | [], [], _ => rfl
  | x :: a, y :: b, h => by
    have ih := num_with a b (by simpa using h)
    have hx : x.toNat < 256 := x.toNat_lt
    have hy : y.toNat < 256 := y.toNat_lt
    have hxy : x.toNat ^^^ y.toNat < 256 := Nat.xor_lt_two_pow (n := 8) hx hy
    show (x ^^^ y).toNat + 256 * CrcP.num (withL a b) = (x.toNat + 256 * CrcP.num a) ^^^ (y.toNat + 256 * CrcP.num b)
    rw [ih, UInt8.toNat_xor, CrcP.add_eq_xor _ _ hxy, CrcP.add_eq_xor _ _ hx, CrcP.add_eq_xor _ _ hy]
    have e : 256 * (CrcP.num a ^^^ CrcP.num b) = (256 * CrcP.num a) ^^^ (256 * CrcP.num b) := by
      have := Nat.shiftLeft_xor_distrib (a := CrcP.num a) (b := CrcP.num b) (i := 8)
      simp only [Nat.shiftLeft_eq] at this
      rw [Nat.mul_comm 256, Nat.mul_comm 256, Nat.mul_comm 256]
      exact this
    rw [e]
    rw [Nat.xor_assoc, Nat.xor_assoc, ← Nat.xor_assoc y.toNat, Nat.xor_comm y.toNat (256 * CrcP.num a), Nat.xor_assoc (256 * CrcP.num a)]
  | [], _ :: _, h => by simp at h
  | _ :: _, [], h => by simp at h

theorem withL_length (a b : List UInt8) (h : a.length = b.length) : (withL a b).length = a.length := by
  unfold withL; rw [List.length_zipWith]; omega

theorem xor3 (t x y z m : Nat) : (t ^^^ x ^^^ m) ^^^ (t ^^^ y ^^^ m) ^^^ (t ^^^ z ^^^ m) = t ^^^ (x ^^^ y ^^^ z) ^^^ m := by
  apply Nat.eq_of_testBit_eq
  intro i
  simp only [Nat.testBit_xor]
  cases t.testBit i <;> cases x.testBit i <;> cases y.testBit i <;> cases z.testBit i <;> cases m.testBit i <;> rfl

theorem sum_line (a b c : List UInt8) (h1 : a.length = b.length) (h2 : a.length = c.length) :
    CrcP.sum a ^^^ CrcP.sum b ^^^ CrcP.sum c = CrcP.sum (withL (withL a b) c) := by
  have e1 := withL_length a b h1
  have e2 := withL_length (withL a b) c (by omega)
  unfold CrcP.sum
  rw [CrcP.more_eq, CrcP.more_eq, CrcP.more_eq, CrcP.more_eq, num_with _ _ (by omega), num_with _ _ h1, e2, e1, ← h1, ← h2]
  rw [CrcP.turnN_xor _ (0 ^^^ CrcP.M) (CrcP.num a), CrcP.turnN_xor _ (0 ^^^ CrcP.M) (CrcP.num b), CrcP.turnN_xor _ (0 ^^^ CrcP.M) (CrcP.num c), CrcP.turnN_xor _ (0 ^^^ CrcP.M) (_ ^^^ _ ^^^ _), CrcP.turnN_xor _ (_ ^^^ _), CrcP.turnN_xor _ (CrcP.num a)]
  exact xor3 _ _ _ _ _

/-- Where the three texts have been cut to one length. -/
theorem ext_take (s : ByteArray) (n : Nat) (h : n ≤ s.size) : (s.extract 0 n).data.toList.length = n := by
  rw [Lib.extract_data]; simp; omega

/-- What the walk wants to know of three texts that are cut to one length. -/
theorem line_facts (s t u : ByteArray) (n : Nat) (h1 : n ≤ s.size) (h2 : n ≤ t.size) (h3 : n ≤ u.size) (h8 : n ≤ 800) :
    (s.extract 0 n).size ≤ 800 ∧ (t.extract 0 n).size ≤ 800 ∧ (u.extract 0 n).size ≤ 800 ∧
    bits BinOp.xor IntKind.u32 ((CrcP.sum (s.extract 0 n).data.toList : Nat) : Int) ((CrcP.sum (t.extract 0 n).data.toList : Nat) : Int) = ((CrcP.sum (s.extract 0 n).data.toList ^^^ CrcP.sum (t.extract 0 n).data.toList : Nat) : Int) ∧
    bits BinOp.xor IntKind.u32 ((CrcP.sum (s.extract 0 n).data.toList ^^^ CrcP.sum (t.extract 0 n).data.toList : Nat) : Int) ((CrcP.sum (u.extract 0 n).data.toList : Nat) : Int) = ((CrcP.sum (s.extract 0 n).data.toList ^^^ CrcP.sum (t.extract 0 n).data.toList ^^^ CrcP.sum (u.extract 0 n).data.toList : Nat) : Int) ∧ True ∧
    (∀ W, Calls Try.prog 31 #[.string (s.extract 0 n), .string (t.extract 0 n)] W fun e w' => e = .returned (.string ⟨(withL (s.extract 0 n).data.toList (t.extract 0 n).data.toList).toArray⟩) ∧ Below W.heap.size W w') ∧
    (∀ W, Calls Try.prog 31 #[.string ⟨(withL (s.extract 0 n).data.toList (t.extract 0 n).data.toList).toArray⟩, .string (u.extract 0 n)] W fun e w' => e = .returned (.string ⟨(withL (withL (s.extract 0 n).data.toList (t.extract 0 n).data.toList) (u.extract 0 n).data.toList).toArray⟩) ∧ Below W.heap.size W w') ∧
    (∀ W, Calls Try.prog 29 #[.string ⟨(withL (withL (s.extract 0 n).data.toList (t.extract 0 n).data.toList) (u.extract 0 n).data.toList).toArray⟩] W fun e w' => e = .returned (.int .u32 (CrcP.sum (s.extract 0 n).data.toList ^^^ CrcP.sum (t.extract 0 n).data.toList ^^^ CrcP.sum (u.extract 0 n).data.toList : Nat)) ∧ Below W.heap.size W w') := by
  have l1 := ext_take s n h1
  have l2 := ext_take t n h2
  have l3 := ext_take u n h3
  have z1 : (s.extract 0 n).size = n := by rw [Lib.size_eq]; exact l1
  have z2 : (t.extract 0 n).size = n := by rw [Lib.size_eq]; exact l2
  have z3 : (u.extract 0 n).size = n := by rw [Lib.size_eq]; exact l3
  generalize s.extract 0 n = A at *
  generalize t.extract 0 n = B at *
  generalize u.extract 0 n = C at *
  have l4 := withL_length A.data.toList B.data.toList (by omega)
  have l5 := withL_length (withL A.data.toList B.data.toList) C.data.toList (by omega)
  have s1 := CrcP.sum_lt A.data.toList
  have s2 := CrcP.sum_lt B.data.toList
  have s3 := CrcP.sum_lt C.data.toList
  have hz : (⟨(withL A.data.toList B.data.toList).toArray⟩ : ByteArray).size = n := by
    show (withL A.data.toList B.data.toList).toArray.size = n; simp; omega
  have hz2 : (⟨(withL (withL A.data.toList B.data.toList) C.data.toList).toArray⟩ : ByteArray).size = n := by
    show (withL (withL A.data.toList B.data.toList) C.data.toList).toArray.size = n; simp; omega
  refine ⟨by omega, by omega, by omega, u32_xor_nat _ _ s1 s2, u32_xor_nat _ _ (Nat.xor_lt_two_pow (n := 32) s1 s2) s3, trivial, fun W => ?_, fun W => ?_, fun W => ?_⟩
  · exact with_any A B (by unfold maxLen; omega) (by unfold maxLen; omega) (by omega) W
  · exact with_any _ C (by unfold maxLen; omega) (by unfold maxLen; omega) (by omega) W
  · have h := sum_any ⟨(withL (withL A.data.toList B.data.toList) C.data.toList).toArray⟩ (by unfold maxLen; omega) W
    rw [show (⟨(withL (withL A.data.toList B.data.toList) C.data.toList).toArray⟩ : ByteArray).data.toList = withL (withL A.data.toList B.data.toList) C.data.toList from rfl, ← sum_line _ _ _ (by omega) (by omega)] at h
    exact h

set_option maxRecDepth 100000 in
set_option maxHeartbeats 1000000 in
theorem crcLine_walk (s : ByteArray) (hs : s.size ≤ maxLen) (t : ByteArray) (ht : t.size ≤ maxLen) (u : ByteArray) (hu : u.size ≤ maxLen) (w : World) :
    Calls Try.prog 5 #[.string s, .string t, .string u] w fun e w' => e = .returned (.bool true) ∧ Below w.heap.size w w' := by
  have hb := Below.refl w.heap.size w
  unfold maxLen at hs ht hu
  go_enter Try.func5, Try.ntmps5
  go_wp2_with fail
  · have g1 : u.size ≤ s.size := by omega
    have g2 : u.size ≤ t.size := by omega
    have g3 : u.size ≤ u.size := by omega
    by_cases h8 : 800 < u.size
    · refine (below_rel hb (awake02 _)).mono ?_; clear hb; rintro e w1 ⟨rfl, hb⟩
      go_wp2_with fail
      refine (below_rel hb (awake02 _)).mono ?_; clear hb; rintro e w1 ⟨rfl, hb⟩
      go_wp2_with fail
      go_ret
      exact ⟨rfl, hb⟩
    · have HL := line_facts s t u u.size g1 g2 g3 (by omega)
      rw [show u.extract 0 u.size = u by simp] at HL
      have HH := Lib.hid HL
      clear HL
      refine (below_rel hb (awake02 _)).mono ?_; clear hb; rintro e w1 ⟨rfl, hb⟩
      go_wp2_with fail
      go_quiet (fail)
      obtain ⟨k1, k2, k3, k4, k5, k6, k7, k8, k9⟩ := HH.out
      clear HH
      generalize s.extract 0 u.size = A at *
      generalize t.extract 0 u.size = B at *
      have K7 := Lib.hid k7
      have K8 := Lib.hid k8
      have K9 := Lib.hid k9
      clear k7 k8 k9
      have hb := below_drewN hb nq
      go_wp2_with fail
      refine (below_rel hb (sum_any A (by unfold maxLen; omega) _)).mono ?_; clear hb; rintro e w1 ⟨rfl, hb⟩
      go_wp2_with fail
      refine (below_rel hb (sum_any B (by unfold maxLen; omega) _)).mono ?_; clear hb; rintro e w1 ⟨rfl, hb⟩
      go_wp2_with fail
      refine (below_rel hb (sum_any u (by unfold maxLen; omega) _)).mono ?_; clear hb; rintro e w1 ⟨rfl, hb⟩
      go_wp2_with fail
      refine (below_rel hb (K7.out _)).mono ?_; clear hb; rintro e w1 ⟨rfl, hb⟩
      go_wp2_with fail
      refine (below_rel hb (K8.out _)).mono ?_; clear hb; rintro e w1 ⟨rfl, hb⟩
      go_wp2_with fail
      refine (below_rel hb (K9.out _)).mono ?_; clear hb; rintro e w1 ⟨rfl, hb⟩
      go_wp2_with fail
      go_ret
      exact ⟨rfl, hb⟩
  · have g1 : t.size ≤ s.size := by omega
    have g2 : t.size ≤ t.size := by omega
    have g3 : t.size ≤ u.size := by omega
    by_cases h8 : 800 < t.size
    · refine (below_rel hb (awake02 _)).mono ?_; clear hb; rintro e w1 ⟨rfl, hb⟩
      go_wp2_with fail
      refine (below_rel hb (awake02 _)).mono ?_; clear hb; rintro e w1 ⟨rfl, hb⟩
      go_wp2_with fail
      go_ret
      exact ⟨rfl, hb⟩
    · have HL := line_facts s t u t.size g1 g2 g3 (by omega)
      rw [show t.extract 0 t.size = t by simp] at HL
      have HH := Lib.hid HL
      clear HL
      refine (below_rel hb (awake02 _)).mono ?_; clear hb; rintro e w1 ⟨rfl, hb⟩
      go_wp2_with fail
      go_quiet (fail)
      obtain ⟨k1, k2, k3, k4, k5, k6, k7, k8, k9⟩ := HH.out
      clear HH
      generalize s.extract 0 t.size = A at *
      generalize u.extract 0 t.size = C at *
      have K7 := Lib.hid k7
      have K8 := Lib.hid k8
      have K9 := Lib.hid k9
      clear k7 k8 k9
      have hb := below_drewN hb nq
      go_wp2_with fail
      refine (below_rel hb (sum_any A (by unfold maxLen; omega) _)).mono ?_; clear hb; rintro e w1 ⟨rfl, hb⟩
      go_wp2_with fail
      refine (below_rel hb (sum_any t (by unfold maxLen; omega) _)).mono ?_; clear hb; rintro e w1 ⟨rfl, hb⟩
      go_wp2_with fail
      refine (below_rel hb (sum_any C (by unfold maxLen; omega) _)).mono ?_; clear hb; rintro e w1 ⟨rfl, hb⟩
      go_wp2_with fail
      refine (below_rel hb (K7.out _)).mono ?_; clear hb; rintro e w1 ⟨rfl, hb⟩
      go_wp2_with fail
      refine (below_rel hb (K8.out _)).mono ?_; clear hb; rintro e w1 ⟨rfl, hb⟩
      go_wp2_with fail
      refine (below_rel hb (K9.out _)).mono ?_; clear hb; rintro e w1 ⟨rfl, hb⟩
      go_wp2_with fail
      go_ret
      exact ⟨rfl, hb⟩
  · have g1 : s.size ≤ s.size := by omega
    have g2 : s.size ≤ t.size := by omega
    have g3 : s.size ≤ u.size := by omega
    by_cases h8 : 800 < s.size
    · refine (below_rel hb (awake02 _)).mono ?_; clear hb; rintro e w1 ⟨rfl, hb⟩
      go_wp2_with fail
      refine (below_rel hb (awake02 _)).mono ?_; clear hb; rintro e w1 ⟨rfl, hb⟩
      go_wp2_with fail
      go_ret
      exact ⟨rfl, hb⟩
    · have HL := line_facts s t u s.size g1 g2 g3 (by omega)
      rw [show s.extract 0 s.size = s by simp] at HL
      have HH := Lib.hid HL
      clear HL
      refine (below_rel hb (awake02 _)).mono ?_; clear hb; rintro e w1 ⟨rfl, hb⟩
      go_wp2_with fail
      go_quiet (fail)
      obtain ⟨k1, k2, k3, k4, k5, k6, k7, k8, k9⟩ := HH.out
      clear HH
      generalize t.extract 0 s.size = B at *
      generalize u.extract 0 s.size = C at *
      have K7 := Lib.hid k7
      have K8 := Lib.hid k8
      have K9 := Lib.hid k9
      clear k7 k8 k9
      have hb := below_drewN hb nq
      go_wp2_with fail
      refine (below_rel hb (sum_any s (by unfold maxLen; omega) _)).mono ?_; clear hb; rintro e w1 ⟨rfl, hb⟩
      go_wp2_with fail
      refine (below_rel hb (sum_any B (by unfold maxLen; omega) _)).mono ?_; clear hb; rintro e w1 ⟨rfl, hb⟩
      go_wp2_with fail
      refine (below_rel hb (sum_any C (by unfold maxLen; omega) _)).mono ?_; clear hb; rintro e w1 ⟨rfl, hb⟩
      go_wp2_with fail
      refine (below_rel hb (K7.out _)).mono ?_; clear hb; rintro e w1 ⟨rfl, hb⟩
      go_wp2_with fail
      refine (below_rel hb (K8.out _)).mono ?_; clear hb; rintro e w1 ⟨rfl, hb⟩
      go_wp2_with fail
      refine (below_rel hb (K9.out _)).mono ?_; clear hb; rintro e w1 ⟨rfl, hb⟩
      go_wp2_with fail
      go_ret
      exact ⟨rfl, hb⟩
end Go.Proofs.Ytmaaljfcnnlnpaa
