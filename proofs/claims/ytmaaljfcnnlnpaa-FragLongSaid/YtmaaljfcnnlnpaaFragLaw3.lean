/-
  The walk of the law FragEpochs.
-/
import Derived.Test.YtmaaljfcnnlnpaaFragLaw2
namespace Go.Proofs.Ytmaaljfcnnlnpaa
open Go.RowKit

/-- A later piece of a record of another epoch comes. -/
theorem take_other_any (a b : Nat) (hab : a ≠ b) (s : List UInt8) (t : ByteArray) (k g : Nat) (p : Pg) (w W : World) (hs : s.length ≤ 4096) (hk : 0 < k ∧ k < cnt s.length) (ht : 2 ≤ cnt t.size) (hp : p = piece b t.data.toList (cnt t.size - 1)) (hj : JS w W g (behind a s k)) :
    Calls Try.prog 45 #[.pointer (some ⟨g, 0, none⟩), .agg #[.int .u32 p.ep, .int .u32 p.nu, .int .i64 p.ki, .bool p.fi, .bool p.la, .string ⟨p.da.toArray⟩]] W
      fun r w' => r = .returned (.tuple #[.string ⟨#[]⟩, .bool false, .int .i64 4]) ∧ JS w w' g Jn.zero ∧ Tk W w' g 0 := by
  have hl : t.data.toList.length = t.size := by simp
  have h2 : p.da.length ≤ 49 := by subst hp; show (chunk _ _).length ≤ 49; rw [chunk_length]; exact plen_le _ _
  refine (take_any _ p g 0 W hj.at' hj.lt (behind_len _ _ _ hs) (by unfold maxLen; omega) hj.frozen).mono ?_
  rintro e w' ⟨rfl, h3, h4⟩
  have hr : p.right = true := by rw [hp]; exact piece_right _ _ _ (by rw [hl]; omega)
  have hf : (behind a s k).fits p = false := by
    have e1 : p.fi = false := by rw [hp]; show ((cnt t.size - 1 : Nat) == 0) = false; rw [beq_eq_false_iff_ne]; omega
    have e2 : p.ep = b := by rw [hp]; rfl
    unfold Jn.fits behind
    rw [if_neg (by omega), e1, e2]
    simp
    intro e; exact absurd e.symm hab
  have ht : (behind a s k).take p = (Jn.zero, [], false, 4) := by
    unfold Jn.take
    rw [if_pos hr, if_pos (by rw [hp]; rfl), if_neg (by rw [hf]; decide)]
  rw [ht] at h3 ⊢
  exact ⟨rfl, hj.took h3 h4, h4⟩

set_option maxRecDepth 100000 in
set_option maxHeartbeats 4000000 in
theorem fragEpochs_walk (a b : Nat) (s : ByteArray) (hs : s.size ≤ maxLen) (t : ByteArray) (ht : t.size ≤ maxLen) (c : Nat) (hc : c < 256) (w : World) :
    Calls Try.prog 11 #[.int .u32 a, .int .u32 b, .string s, .string t, .int .u8 c] w fun e w' => e = .returned (.bool true) ∧ Below w.heap.size w w' := by
  have hb := Below.refl w.heap.size w
  unfold maxLen at hs ht
  by_cases h1 : s.size < 50
  · go_enter Try.func11, Try.ntmps11
    go_wp2_with fail
    refine (below_rel hb (awake18 _)).mono ?_; clear hb; rintro e w1 ⟨rfl, hb⟩
    go_wp2_with fail
    refine (below_rel hb (awake18 _)).mono ?_; clear hb; rintro e w1 ⟨rfl, hb⟩
    go_wp2_with fail
    go_ret
    exact ⟨rfl, hb⟩
  by_cases h2 : t.size < 50
  · go_enter Try.func11, Try.ntmps11
    go_wp2_with fail
    refine (below_rel hb (awake18 _)).mono ?_; clear hb; rintro e w1 ⟨rfl, hb⟩
    go_wp2_with fail
    refine (below_rel hb (awake18 _)).mono ?_; clear hb; rintro e w1 ⟨rfl, hb⟩
    go_wp2_with fail
    go_ret
    exact ⟨rfl, hb⟩
  by_cases h3 : 4096 < s.size
  · go_enter Try.func11, Try.ntmps11
    go_wp2_with fail
    refine (below_rel hb (awake18 _)).mono ?_; clear hb; rintro e w1 ⟨rfl, hb⟩
    go_wp2_with fail
    refine (below_rel hb (awake18 _)).mono ?_; clear hb; rintro e w1 ⟨rfl, hb⟩
    go_wp2_with fail
    go_ret
    exact ⟨rfl, hb⟩
  by_cases h4 : 4096 < t.size
  · go_enter Try.func11, Try.ntmps11
    go_wp2_with fail
    refine (below_rel hb (awake18 _)).mono ?_; clear hb; rintro e w1 ⟨rfl, hb⟩
    go_wp2_with fail
    refine (below_rel hb (awake18 _)).mono ?_; clear hb; rintro e w1 ⟨rfl, hb⟩
    go_wp2_with fail
    go_ret
    exact ⟨rfl, hb⟩
  by_cases h5 : a = b
  · subst h5
    go_enter Try.func11, Try.ntmps11
    go_wp2_with fail
    refine (below_rel hb (awake18 _)).mono ?_; clear hb; rintro e w1 ⟨rfl, hb⟩
    go_wp2_with fail
    refine (below_rel hb (awake18 _)).mono ?_; clear hb; rintro e w1 ⟨rfl, hb⟩
    go_wp2_with fail
    go_ret
    exact ⟨rfl, hb⟩
  have h6 : ((a : Int) == (b : Int)) = false := by rw [beq_eq_false_iff_ne]; omega
  go_enter Try.func11, Try.ntmps11
  go_wp2_with fail
  refine (below_rel hb (awake18 _)).mono ?_; clear hb; rintro e w1 ⟨rfl, hb⟩
  go_wp2_with fail
  refine (cut_yes a s (by omega) (by omega) _).mono ?_
  rintro e w2 ⟨v, rfl, hr1, hb2⟩
  have hcl : cnt s.size ≤ 84 := by unfold cnt; omega
  have hcp : 2 ≤ cnt s.size := by unfold cnt; omega
  have htl : cnt t.size ≤ 84 := by unfold cnt; omega
  have htp : 2 ≤ cnt t.size := by unfold cnt; omega
  have HPL := Lib.hid (show (pieces a s.data.toList).length = cnt s.size by rw [pieces_length]; simp)
  have HPT := Lib.hid (show (pieces b t.data.toList).length = cnt t.size by rw [pieces_length]; simp)
  obtain ⟨g1, cap1, rfl, hg1, hl1⟩ := hr1.form (by omega)
  have hb := hb.trans (hb2.mono hb.size)
  have HP := Lib.hid (show ∀ k (hk : k < (pieces a s.data.toList).length), PgAt w2 g1 (k * 6) (pieces a s.data.toList)[k] from fun k hk => own_pg hr1 k hk)
  clear hr1 hb2 hg1
  go_wp2_with fail
  refine (cut_yes b t (by omega) (by omega) _).mono ?_
  rintro e w3 ⟨v, rfl, hr1, hb2⟩
  obtain ⟨g2, cap2, rfl, hg2, hl2⟩ := hr1.form (by omega)
  have HP1 := Lib.hid (show ∀ k (hk : k < (pieces a s.data.toList).length), PgAt w3 g1 (k * 6) (pieces a s.data.toList)[k] from fun k hk => (HP.out k hk).below hb2 hl1)
  have HP2 := Lib.hid (show PgAt w3 g2 ((cnt t.size - 1) * 6) (piece b t.data.toList (cnt t.size - 1)) by
    have := own_pg hr1 (cnt t.size - 1) (by rw [HPT.out]; omega)
    rwa [pieces_get] at this)
  have HL1 := Lib.hid (Nat.lt_of_lt_of_le hl1 hb2.size)
  have HL2 := Lib.hid hl2
  have hb := hb.trans (hb2.mono hb.size)
  have HB := Lib.hid hb
  clear hr1 hb hb2 hg2 hl2 hl1 HP
  obtain ⟨K, hK, hK1, hK2⟩ : ∃ K : Nat, wrap64 (1 + (c : Int) % ((cnt s.size : Int) - 1)) = (K : Int) ∧ 1 ≤ K ∧ K < cnt s.size := by
    have e : ((cnt s.size : Int) - 1) = ((cnt s.size - 1 : Nat) : Int) := by omega
    have hlt := Nat.mod_lt c (show cnt s.size - 1 > 0 by omega)
    refine ⟨1 + c % (cnt s.size - 1), ?_, by omega, by omega⟩
    rw [e, ← Int.natCast_emod, show (1 : Int) + ((c % (cnt s.size - 1) : Nat) : Int) = ((1 + c % (cnt s.size - 1) : Nat) : Int) by omega]
    generalize c % (cnt s.size - 1) = r at *
    unfold wrap64
    omega
  have hJ0 := JS.boxed w3 w3 (Below.refl _ _)
  go_wp2_with fail
  rw [hK]
  have HK := Lib.hid hK
  clear hK
  revert hJ0
  generalize w3.alloc (Obj.cells #[.bool false, .int .u32 0, .string ⟨#[]⟩] 54) = w4
  generalize w3.heap.size = g
  intro hJ0
  go_loopw [17, 70, 71, 72, 73, 74, 75, 76, 77, 78, 79, 80] (fun a17 _ _ _ _ _ _ _ _ _ _ _ wr => ∃ k : Nat, k ≤ K ∧ a17 = .int .i64 k ∧ JS w3 wr g (behind a s.data.toList k)) (fun a17 _ _ _ _ _ _ _ _ _ _ _ _ => K - (intOf a17).toNat)
  case atStart => exact ⟨0, Nat.zero_le _, rfl, by rw [show behind a s.data.toList 0 = Jn.zero by simp [behind]]; exact hJ0⟩
  case round =>
    clear hJ0
    obtain ⟨k, hk, rfl, hJ⟩ := hrel
    have HS := Lib.hid (show s.size ≤ 4096 by omega)
    by_cases hlt : k < K
    · have HJ := Lib.hid hJ
      obtain ⟨p, hp, hpg⟩ : ∃ p, p = piece a s.data.toList k ∧ PgAt w3 g1 (k * 6) p := ⟨_, rfl, by
        have := HP1.out k (by rw [HPL.out]; omega)
        rwa [pieces_get] at this⟩
      have HPP := Lib.hid hp
      obtain ⟨q0, q1, q2, q3, q4, q5⟩ := hpg.inJS hJ HL1.out
      clear hJ hp hpg
      go_wp2_with fail
      refine (take_piece_any a s k g p w3 _ (by omega) HS.out HPP.out HJ.out).mono ?_
      rintro e w5 ⟨rfl, hJ5, ht⟩
      have HJ5 := Lib.hid hJ5
      clear hJ5 ht q0 q1 q2 q3 q4 q5
      go_wp2_with fail
      exact ⟨⟨k + 1, by omega, by simp, HJ5.out⟩, by simp only [intOf]; omega⟩
    · have hke : k = K := by omega
      subst hke
      have HJ := Lib.hid hJ
      have HPQ := Lib.hid (show ∃ p, p = piece b t.data.toList (cnt t.size - 1) ∧ PgAt w3 g2 ((cnt t.size - 1) * 6) p from ⟨_, rfl, HP2.out⟩)
      obtain ⟨p, hp, hpg⟩ := HPQ.out
      have HPP := Lib.hid hp
      obtain ⟨q0, q1, q2, q3, q4, q5⟩ := hpg.inJS hJ HL2.out
      clear hJ hp hpg
      go_wp2_with fail
      refine (take_other_any a b h5 s.data.toList t k g p w3 _ (by have := HS.out; simpa using this) ⟨hK1, by simpa using hK2⟩ htp HPP.out HJ.out).mono ?_
      rintro e w5 ⟨rfl, hJ5, ht⟩
      have HJ5 := Lib.hid hJ5
      clear hJ5 ht q0 q1 q2 q3 q4 q5
      go_wp2_with fail
      refine (begun_any _ g 0 _ HJ5.out.at').mono ?_
      rintro e w7 ⟨rfl, rfl⟩
      go_wp2_with fail
      go_ret
      exact ⟨rfl, HB.out.trans (HJ5.out.below.mono HB.out.size)⟩
end Go.Proofs.Ytmaaljfcnnlnpaa
