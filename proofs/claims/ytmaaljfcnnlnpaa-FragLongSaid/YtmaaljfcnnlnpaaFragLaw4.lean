/-
  The walk of the law FragRow.
-/
import Derived.Test.YtmaaljfcnnlnpaaFragLaw3
namespace Go.Proofs.Ytmaaljfcnnlnpaa
open Go.RowKit

/-- A row of strings that lies in memory. -/
def StrsAt (w : World) (b o n : Nat) (ss : Nat → ByteArray) : Prop := ∀ i, i < n → w.cell? ⟨b, o + i, none⟩ = some (.string (ss i)) ∧ (ss i).size ≤ maxLen

theorem cell_lt {w : World} {a : Addr} {v : Value} (h : w.cell? a = some v) : a.block < w.heap.size := by
  unfold World.cell? at h
  split at h
  · rename_i h2
    exact (Array.getElem?_eq_some_iff.1 h2).1
  · cases h

/-- Pages that lie one behind the other. -/
structure PgsAt (W : World) (b : Nat) (l : List Pg) : Prop where
  pg : ∀ k (hk : k < l.length), PgAt W b (k * 6) l[k]
  lt : b < W.heap.size
theorem PgsAt.below {B : Nat} {W W' : World} {b : Nat} {l : List Pg} (h : PgsAt W b l) (hb : Below B W W') (hB : b < B) : PgsAt W' b l :=
  ⟨fun k hk => by
    have e : ∀ i, W'.cell? ⟨b, i, none⟩ = W.cell? ⟨b, i, none⟩ := fun i => hb.cell (p := ⟨b, i, none⟩) hB
    have h := h.pg k hk
    exact ⟨(e _).trans h.c0, (e _).trans h.c1, (e _).trans h.c2, (e _).trans h.c3, (e _).trans h.c4, (e _).trans h.c5⟩, Nat.lt_of_lt_of_le h.lt hb.size⟩
theorem PgsAt.took {W W' : World} {b g og : Nat} {l : List Pg} (h : PgsAt W b l) (hb : Tk W W' g og) (hne : b ≠ g) : PgsAt W' b l :=
  ⟨fun k hk => (h.pg k hk).took hb h.lt hne, Nat.lt_of_lt_of_le h.lt hb.size⟩

set_option maxRecDepth 100000 in
set_option maxHeartbeats 4000000 in
theorem fragRow_none (ep : Nat) (a0 : Option Addr) (cap : Nat) (w : World) :
    Calls Try.prog 12 #[.int .u32 ep, .slice a0 0 cap] w fun e w' => e = .returned (.bool true) ∧ Below w.heap.size w w' := by
  have hb := Below.refl w.heap.size w
  go_enter Try.func12, Try.ntmps12
  go_wp2_with fail
  refine (below_rel hb (awake18 _)).mono ?_; clear hb; rintro e w1 ⟨rfl, hb⟩
  have HB := Lib.hid (hb.trans ((Below.refl _ _).alloc hb.size (Obj.cells #[.bool false, .int .u32 0, .string ⟨#[]⟩] 54)))
  clear hb
  go_wp2_with fail
  go_loopw [6, 25, 26, 27, 28] (fun a6 _ _ _ _ wr => a6 = .int .i64 0 ∧ wr = w1.alloc (Obj.cells #[.bool false, .int .u32 0, .string ⟨#[]⟩] 54)) (fun _ _ _ _ _ _ => 0)
  case atStart => exact ⟨rfl, rfl⟩
  case round =>
    obtain ⟨rfl, rfl⟩ := hrel
    go_wp2_with fail
    go_ret
    exact ⟨rfl, HB.out⟩

set_option maxRecDepth 100000 in
set_option maxHeartbeats 4000000 in
theorem fragRow_some (ep b o n cap : Nat) (ss : Nat → ByteArray) (hn : 0 < n) (hnc : n ≤ maxLen) (w : World) (hss : StrsAt w b o n ss) :
    Calls Try.prog 12 #[.int .u32 ep, .slice (some ⟨b, o, none⟩) n cap] w fun e w' => e = .returned (.bool true) ∧ Below w.heap.size w w' := by
  have hb := Below.refl w.heap.size w
  have hlt : b < w.heap.size := cell_lt (hss 0 hn).1
  have HSS := Lib.hid hss
  clear hss
  unfold maxLen at hnc
  by_cases h1 : 10 < n
  · go_enter Try.func12, Try.ntmps12
    go_wp2_with fail
    refine (below_rel hb (awake18 _)).mono ?_; clear hb; rintro e w1 ⟨rfl, hb⟩
    go_wp2_with fail
    refine (below_rel hb (awake18 _)).mono ?_; clear hb; rintro e w1 ⟨rfl, hb⟩
    go_wp2_with fail
    go_ret
    exact ⟨rfl, hb⟩
  go_enter Try.func12, Try.ntmps12
  go_wp2_with fail
  refine (below_rel hb (awake18 _)).mono ?_; clear hb; rintro e w1 ⟨rfl, hb⟩
  have hJ0 := JS.boxed w1 w1 (Below.refl _ _)
  have HB := Lib.hid hb
  have HLT := Lib.hid hlt
  have hgl : w.heap.size ≤ w1.heap.size := hb.size
  clear hb
  go_wp2_with fail
  have HGE := Lib.hid (show w1.heap.size ≤ w1.heap.size from Nat.le_refl _)
  revert hJ0 HGE
  generalize w1.alloc (Obj.cells #[.bool false, .int .u32 0, .string ⟨#[]⟩] 54) = w3
  generalize hgg : w1.heap.size = g
  intro hJ0 HGE
  have HGG := Lib.hid hgg
  clear hgg
  go_loopw [6, 7, 8, 9, 10, 11, 12, 13, 14, 25, 26, 27, 28, 29, 30, 31, 32, 33, 34, 35, 36, 37, 38, 39, 40, 41, 42, 43, 44, 45, 46, 47, 48, 49, 50, 51, 52, 53, 54, 55, 56, 57, 58, 59, 60, 61, 62, 63, 64, 65, 66, 67, 68, 69, 70, 71, 72, 73, 74, 75, 76, 77, 78, 79, 80, 81, 82, 83, 84, 85, 86, 87, 88, 89, 90, 91, 92, 93, 94, 95, 96, 97, 98, 99, 100, 101, 102, 103, 104, 105, 106, 107, 108, 109] (fun a6 _ _ _ _ _ _ _ _ _ _ _ _ _ _ _ _ _ _ _ _ _ _ _ _ _ _ _ _ _ _ _ _ _ _ _ _ _ _ _ _ _ _ _ _ _ _ _ _ _ _ _ _ _ _ _ _ _ _ _ _ _ _ _ _ _ _ _ _ _ _ _ _ _ _ _ _ _ _ _ _ _ _ _ _ _ _ _ _ _ _ _ _ _ wr => ∃ k : Nat, k ≤ n ∧ a6 = .int .i64 k ∧ JS w1 wr g Jn.zero) (fun a6 _ _ _ _ _ _ _ _ _ _ _ _ _ _ _ _ _ _ _ _ _ _ _ _ _ _ _ _ _ _ _ _ _ _ _ _ _ _ _ _ _ _ _ _ _ _ _ _ _ _ _ _ _ _ _ _ _ _ _ _ _ _ _ _ _ _ _ _ _ _ _ _ _ _ _ _ _ _ _ _ _ _ _ _ _ _ _ _ _ _ _ _ _ _ => n - (intOf a6).toNat)
  case atStart => exact ⟨0, Nat.zero_le _, rfl, hJ0⟩
  case round =>
    clear hJ0
    obtain ⟨i, hi, rfl, hJ⟩ := hrel
    by_cases hlt : i < n
    · have hstr : ∀ W : World, Below w.heap.size w W → W.cell? ⟨b, o + i, none⟩ = some (.string (ss i)) := fun W hW => (hW.cell (p := ⟨b, o + i, none⟩) HLT.out).trans (HSS.out i hlt).1
      have HSTR := Lib.hid hstr
      have hsz : (ss i).size ≤ 2 ^ 63 - 1 := (HSS.out i hlt).2
      have c0 := hstr wr (HB.out.trans (hJ.below.mono HB.out.size))
      clear hstr
      have HJ := Lib.hid hJ
      clear hJ
      generalize ss i = s at *
      by_cases hs1 : s.size < 1
      · go_wp2_with fail
        exact ⟨⟨i + 1, by omega, by simp, HJ.out⟩, by simp only [intOf]; omega⟩
      by_cases hs2 : 4096 < s.size
      · go_wp2_with fail
        exact ⟨⟨i + 1, by omega, by simp, HJ.out⟩, by simp only [intOf]; omega⟩
      go_wp2_with fail
      refine (cut_yes ep s (by omega) (by omega) _).mono ?_
      rintro e w4 ⟨v, rfl, hr1, hb2⟩
      have hcl : cnt s.size ≤ 84 := by unfold cnt; omega
      have hcp : 0 < cnt s.size := by unfold cnt; omega
      have HPL := Lib.hid (show (pieces ep s.data.toList).length = cnt s.size by rw [pieces_length]; simp)
      obtain ⟨g1, cap1, rfl, hg1, hl1⟩ := hr1.form hcp
      have HP := Lib.hid (show PgsAt w4 g1 (pieces ep s.data.toList) from ⟨fun k hk => own_pg hr1 k hk, hl1⟩)
      have HJ4 := Lib.hid (HJ.out.step hb2)
      have HNE := Lib.hid (show g1 ≠ g by have := HJ.out.lt; omega)
      clear hr1 hb2 hg1 hl1 c0
      go_wp2_with fail
      go_loopw [9, 10, 11, 12, 13, 14, 54, 55, 56, 57, 58, 59, 60, 61, 62, 63, 64, 65, 66, 67, 68, 69, 70, 71, 72, 73, 74, 75, 76, 77, 78, 79, 80, 81, 82, 83, 84, 85, 86, 87, 88, 89, 90, 91] (fun a9 a10 a11 _ _ _ _ _ _ _ _ _ _ _ _ _ _ _ _ _ _ _ _ _ _ _ _ _ _ _ _ _ _ _ _ _ _ _ _ _ _ _ _ _ wr => ∃ k : Nat, k ≤ cnt s.size ∧ a11 = .int .i64 k ∧ a9 = .string (if k = cnt s.size then s else ⟨#[]⟩) ∧ a10 = .int .i64 (if k = cnt s.size then 1 else 0) ∧ JS w1 wr g (behind ep s.data.toList k) ∧ PgsAt wr g1 (pieces ep s.data.toList)) (fun _ _ a11 _ _ _ _ _ _ _ _ _ _ _ _ _ _ _ _ _ _ _ _ _ _ _ _ _ _ _ _ _ _ _ _ _ _ _ _ _ _ _ _ _ _ => cnt s.size - (intOf a11).toNat)
      case atStart => exact ⟨0, Nat.zero_le _, rfl, by rw [if_neg (by omega)], by rw [if_neg (by omega)], by rw [show behind ep s.data.toList 0 = Jn.zero by simp [behind]]; exact HJ4.out, HP.out⟩
      case round =>
        obtain ⟨k, hk, rfl, rfl, rfl, hJ5, hP5⟩ := hrel
        have HS := Lib.hid (show s.size ≤ 4096 by omega)
        by_cases hlk : k < cnt s.size
        · obtain ⟨p, hp, hpg⟩ : ∃ p, p = piece ep s.data.toList k ∧ PgAt wr g1 (k * 6) p := ⟨_, rfl, by
            have := hP5.pg k (by rw [HPL.out]; exact hlk)
            rwa [pieces_get] at this⟩
          have HPP := Lib.hid hp
          have HPG := Lib.hid hpg
          have HJ5 := Lib.hid hJ5
          have HP5 := Lib.hid hP5
          obtain ⟨q0, q1, q2, q3, q4, q5⟩ := hpg
          rw [if_neg (by omega), if_neg (by omega)]
          clear hJ5 hP5 hp
          by_cases hla : k + 1 = cnt s.size
          · have hkl : ((k : Int) < (cnt s.size : Int) - 1) = False := by simp; omega
            go_wp2_with fail
            refine (take_last_any ep s k g p w1 _ hla HS.out HPP.out HJ5.out).mono ?_
            rintro e w6 ⟨rfl, hJ6, ht⟩
            have HJ6 := Lib.hid hJ6
            have HP6 := Lib.hid (HP5.out.took ht HNE.out)
            obtain ⟨q0, q1, q2, q3, q4, q5⟩ := HPG.out.took ht HP5.out.lt HNE.out
            clear hJ6 ht
            go_wp2_with fail
            all_goals exact ⟨⟨k + 1, by omega, by simp, by rw [if_pos hla], by rw [if_pos hla], HJ6.out, HP6.out⟩, by simp only [intOf]; omega⟩
          · have hkl : (k : Int) < (cnt s.size : Int) - 1 := by omega
            have h49 : (ByteArray.mk p.da.toArray).size = 49 := by
              have := HPP.out
              subst this
              show (chunk s.data.toList k).toArray.size = 49
              simp [chunk_length, plen]
              unfold cnt at *
              omega
            go_wp2_with fail
            refine (take_mid_any ep s k g p w1 _ (by omega) HS.out HPP.out HJ5.out).mono ?_
            rintro e w6 ⟨rfl, hJ6, ht⟩
            have HJ6 := Lib.hid hJ6
            have HP6 := Lib.hid (HP5.out.took ht HNE.out)
            obtain ⟨q0, q1, q2, q3, q4, q5⟩ := HPG.out.took ht HP5.out.lt HNE.out
            clear hJ6 ht
            go_wp2_with fail
            all_goals exact ⟨⟨k + 1, by omega, by simp, by rw [if_neg hla], by rw [if_neg hla], HJ6.out, HP6.out⟩, by simp only [intOf]; omega⟩
        · have hke : k = cnt s.size := by omega
          subst hke
          rw [if_pos rfl, if_pos rfl]
          have hz : behind ep s.data.toList (cnt s.size) = Jn.zero := by unfold behind; rw [if_pos (.inr (by simp))]
          rw [hz] at hJ5
          have HJ5 := Lib.hid hJ5
          have c0 := HSTR.out wr (HB.out.trans (hJ5.below.mono HB.out.size))
          clear hJ5 hP5 hz
          go_wp2_with fail
          refine (begun_any _ g 0 _ HJ5.out.at').mono ?_
          rintro e w7 ⟨rfl, rfl⟩
          go_wp2_with fail
          exact ⟨⟨i + 1, by omega, by simp, HJ5.out⟩, by simp only [intOf]; omega⟩
    · have hie : i = n := by omega
      subst hie
      have HJ := Lib.hid hJ
      clear hJ
      go_wp2_with fail
      go_ret
      exact ⟨rfl, HB.out.trans (HJ.out.below.mono HB.out.size)⟩
end Go.Proofs.Ytmaaljfcnnlnpaa
