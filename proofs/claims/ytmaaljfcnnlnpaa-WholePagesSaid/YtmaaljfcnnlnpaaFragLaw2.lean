/-
  The walk of the law FragBack.
-/
import Derived.Test.YtmaaljfcnnlnpaaJoin3
namespace Go.Proofs.Ytmaaljfcnnlnpaa
open Go.RowKit

/-- A joiner of the call's own, in a world of the walk. -/
structure JS (w W : World) (g : Nat) (j : Jn) : Prop where
  below : Below w.heap.size w W
  at' : JnAt W g 0 j
  frozen : ∀ i, W.frozen? ⟨g, i, none⟩ = false
  lt : g < W.heap.size
  ge : w.heap.size ≤ g

theorem JS.step {w W W' : World} {g : Nat} {j : Jn} (h : JS w W g j) (hb : Below W.heap.size W W') : JS w W' g j :=
  ⟨h.below.trans (hb.mono h.below.size), h.at'.below hb h.lt, fun i => (hb.frozen (p := ⟨g, i, none⟩) h.lt).trans (h.frozen i), Nat.lt_of_lt_of_le h.lt hb.size, h.ge⟩

theorem JS.took {w W W' : World} {g : Nat} {j j' : Jn} (h : JS w W g j) (hj : JnAt W' g 0 j') (hb : Tk W W' g 0) : JS w W' g j' :=
  ⟨h.below.trans (hb.below h.ge h.below.size), hj, fun i => (hb.frozen i).trans (h.frozen i), Nat.lt_of_lt_of_le h.lt hb.size, h.ge⟩

theorem JS.boxed (w W : World) (hb : Below w.heap.size w W) : JS w (W.alloc (Obj.cells #[.bool false, .int .u32 0, .string ⟨#[]⟩] 54)) W.heap.size Jn.zero :=
  ⟨hb.trans ((Below.refl _ _).alloc hb.size _), by refine ⟨?_, ?_, ?_⟩ <;> rw [World.cell?_alloc_new] <;> rfl, fun i => World.frozen?_alloc_new _ _ _ _, by simp, hb.size⟩

theorem behind_len (ep : Nat) (rec : List UInt8) (k : Nat) (h : rec.length ≤ 4096) : (behind ep rec k).rc.length ≤ 4096 := by
  unfold behind
  split
  · simp [Jn.zero]
  · simp; omega

/-- A piece of a record comes to the joiner of the pieces ahead of it. -/
theorem take_piece_any (ep : Nat) (s : ByteArray) (k g : Nat) (p : Pg) (w W : World) (hk : k < cnt s.size) (hs : s.size ≤ 4096) (hp : p = piece ep s.data.toList k) (hj : JS w W g (behind ep s.data.toList k)) :
    Calls Try.prog 45 #[.pointer (some ⟨g, 0, none⟩), .agg #[.int .u32 p.ep, .int .u32 p.nu, .int .i64 p.ki, .bool p.fi, .bool p.la, .string ⟨p.da.toArray⟩]] W
      fun r w' => r = .returned (.tuple #[.string (if k + 1 = cnt s.size then s else ⟨#[]⟩), .bool (k + 1 == cnt s.size), .int .i64 0]) ∧ JS w w' g (behind ep s.data.toList (k + 1)) ∧ Tk W w' g 0 := by
  have hl : s.data.toList.length = s.size := by simp
  have h2 : p.da.length ≤ 49 := by subst hp; show (chunk _ _).length ≤ 49; rw [chunk_length]; exact plen_le _ _
  refine (take_any _ p g 0 W hj.at' hj.lt (behind_len _ _ _ (by omega)) (by unfold maxLen; omega) hj.frozen).mono ?_
  rintro e w' ⟨rfl, h3, h4⟩
  subst hp
  rw [take_piece ep s.data.toList k (by rw [hl]; exact hk) (by omega)] at h3 ⊢
  refine ⟨?_, hj.took h3 h4, h4⟩
  dsimp only
  rw [hl]
  by_cases e : k + 1 = cnt s.size
  · rw [if_pos e, if_pos e]
  · rw [if_neg e, if_neg e]

theorem take_last_any (ep : Nat) (s : ByteArray) (k g : Nat) (p : Pg) (w W : World) (hk : k + 1 = cnt s.size) (hs : s.size ≤ 4096) (hp : p = piece ep s.data.toList k) (hj : JS w W g (behind ep s.data.toList k)) :
    Calls Try.prog 45 #[.pointer (some ⟨g, 0, none⟩), .agg #[.int .u32 p.ep, .int .u32 p.nu, .int .i64 p.ki, .bool p.fi, .bool p.la, .string ⟨p.da.toArray⟩]] W
      fun r w' => r = .returned (.tuple #[.string s, .bool true, .int .i64 0]) ∧ JS w w' g (behind ep s.data.toList (k + 1)) ∧ Tk W w' g 0 := by
  refine (take_piece_any ep s k g p w W (by omega) hs hp hj).mono ?_
  rintro e w' ⟨rfl, h⟩
  rw [if_pos hk, show (k + 1 == cnt s.size) = true by simpa using hk]
  exact ⟨rfl, h⟩

theorem take_mid_any (ep : Nat) (s : ByteArray) (k g : Nat) (p : Pg) (w W : World) (hk : k + 1 < cnt s.size) (hs : s.size ≤ 4096) (hp : p = piece ep s.data.toList k) (hj : JS w W g (behind ep s.data.toList k)) :
    Calls Try.prog 45 #[.pointer (some ⟨g, 0, none⟩), .agg #[.int .u32 p.ep, .int .u32 p.nu, .int .i64 p.ki, .bool p.fi, .bool p.la, .string ⟨p.da.toArray⟩]] W
      fun r w' => r = .returned (.tuple #[.string ⟨#[]⟩, .bool false, .int .i64 0]) ∧ JS w w' g (behind ep s.data.toList (k + 1)) ∧ Tk W w' g 0 := by
  refine (take_piece_any ep s k g p w W (by omega) hs hp hj).mono ?_
  rintro e w' ⟨rfl, h⟩
  rw [if_neg (by omega), show (k + 1 == cnt s.size) = false by simp; omega]
  exact ⟨rfl, h⟩

theorem right_piece_any (ep : Nat) (s : ByteArray) (k : Nat) (p : Pg) (hk : k < cnt s.size) (hp : p = piece ep s.data.toList k) (w : World) :
    Calls Try.prog 49 #[.agg #[.int .u32 p.ep, .int .u32 p.nu, .int .i64 p.ki, .bool p.fi, .bool p.la, .string ⟨p.da.toArray⟩]] w fun r w' => r = .returned (.bool true) ∧ Below w.heap.size w w' := by
  have hl : s.data.toList.length = s.size := by simp
  have h2 : p.da.length ≤ 49 := by subst hp; show (chunk _ _).length ≤ 49; rw [chunk_length]; exact plen_le _ _
  have := right_any p (by unfold maxLen; omega) w
  rwa [show p.right = true by rw [hp]; exact piece_right _ _ _ (by rw [hl]; exact hk)] at this

theorem begun_last_any (ep : Nat) (s : ByteArray) (k g : Nat) (hk : k + 1 = cnt s.size) (w W : World) (hj : JS w W g (behind ep s.data.toList (k + 1))) :
    Calls Try.prog 50 #[.pointer (some ⟨g, 0, none⟩)] W fun r w' => r = .returned (.bool false) ∧ W = w' := by
  have := begun_any _ g 0 W hj.at'
  rwa [show (behind ep s.data.toList (k + 1)).be = false by unfold behind; rw [if_pos (.inr (by simpa using hk))]; rfl] at this

theorem begun_mid_any (ep : Nat) (s : ByteArray) (k g : Nat) (hk : k + 1 < cnt s.size) (w W : World) (hj : JS w W g (behind ep s.data.toList (k + 1))) :
    Calls Try.prog 50 #[.pointer (some ⟨g, 0, none⟩)] W fun r w' => r = .returned (.bool true) ∧ W = w' := by
  have hl : s.data.toList.length = s.size := by simp
  have := begun_any _ g 0 W hj.at'
  rwa [show (behind ep s.data.toList (k + 1)).be = true by unfold behind; rw [if_neg (by rw [hl]; omega)]] at this

/-- A head of a log comes: it changes nothing. -/
theorem take_head_any (j : Jn) (g : Nat) (w W : World) (hl : j.rc.length ≤ 4096) (hj : JS w W g j) :
    Calls Try.prog 45 #[.pointer (some ⟨g, 0, none⟩), .agg #[.int .u32 9, .int .u32 0, .int .i64 1, .bool false, .bool false, .string ⟨#[120]⟩]] W
      fun r w' => r = .returned (.tuple #[.string ⟨#[]⟩, .bool false, .int .i64 0]) ∧ JS w w' g j ∧ Tk W w' g 0 := by
  refine (take_any j ⟨9, 0, 1, false, false, [120]⟩ g 0 W hj.at' hj.lt hl (by decide) hj.frozen).mono ?_
  rintro e w' ⟨rfl, h3, h4⟩
  exact ⟨rfl, hj.took h3 h4, h4⟩

theorem PgAt.took {W W' : World} {b o g og : Nat} {p : Pg} (h : PgAt W b o p) (hb : Tk W W' g og) (hlt : b < W.heap.size) (hne : b ≠ g) : PgAt W' b o p := by
  have e : ∀ i, W'.cell? ⟨b, i, none⟩ = W.cell? ⟨b, i, none⟩ := fun i => World.cell?_of_block (w := W) (hb.block b hlt hne)
  exact ⟨(e _).trans h.c0, (e _).trans h.c1, (e _).trans h.c2, (e _).trans h.c3, (e _).trans h.c4, (e _).trans h.c5⟩

/-- What a round over the pieces has of its world: the pieces lie ahead of the joiner. -/
theorem PgAt.inJS {w W : World} {b o g : Nat} {p : Pg} {j : Jn} (h : PgAt w b o p) (hj : JS w W g j) (hlt : b < w.heap.size) : PgAt W b o p := h.below hj.below hlt

set_option maxRecDepth 100000 in
set_option maxHeartbeats 4000000 in
theorem fragBack_walk (ep : Nat) (s : ByteArray) (hs : s.size ≤ maxLen) (hd : Nat) (_hh : hd < 256) (w : World) :
    Calls Try.prog 10 #[.int .u32 ep, .string s, .int .u8 hd] w fun e w' => e = .returned (.bool true) ∧ Below w.heap.size w w' := by
  have hb := Below.refl w.heap.size w
  unfold maxLen at hs
  by_cases h5 : 5000 < s.size
  · go_enter Try.func10, Try.ntmps10
    go_wp2_with fail
    refine (below_rel hb (awake18 _)).mono ?_; clear hb; rintro e w1 ⟨rfl, hb⟩
    go_wp2_with fail
    refine (below_rel hb (awake18 _)).mono ?_; clear hb; rintro e w1 ⟨rfl, hb⟩
    go_wp2_with fail
    go_ret
    exact ⟨rfl, hb⟩
  by_cases h6 : s.size < 1
  · have HPA := Lib.hid (show pagesP s.size = 0 by unfold pagesP; rw [if_pos (by omega)])
    go_enter Try.func10, Try.ntmps10
    go_wp2_with fail
    refine (below_rel hb (awake18 _)).mono ?_; clear hb; rintro e w1 ⟨rfl, hb⟩
    go_wp2_with fail
    refine (below_rel hb (cut_no ep s (by omega) (by omega) _)).mono ?_; clear hb; rintro e w1 ⟨rfl, hb⟩
    go_wp2_with fail
    refine (pages_any s.size (by omega) _).mono ?_
    rw [HPA.out]
    rintro e w4 ⟨rfl, rfl⟩
    go_wp2_with fail
    go_ret
    exact ⟨rfl, hb⟩
  by_cases h7 : 4096 < s.size
  · have HPA := Lib.hid (show pagesP s.size = 0 by unfold pagesP; rw [if_pos (by omega)])
    go_enter Try.func10, Try.ntmps10
    go_wp2_with fail
    refine (below_rel hb (awake18 _)).mono ?_; clear hb; rintro e w1 ⟨rfl, hb⟩
    go_wp2_with fail
    refine (below_rel hb (cut_no ep s (by omega) (by omega) _)).mono ?_; clear hb; rintro e w1 ⟨rfl, hb⟩
    go_wp2_with fail
    refine (pages_any s.size (by omega) _).mono ?_
    rw [HPA.out]
    rintro e w4 ⟨rfl, rfl⟩
    go_wp2_with fail
    go_ret
    exact ⟨rfl, hb⟩
  go_enter Try.func10, Try.ntmps10
  go_wp2_with fail
  refine (below_rel hb (awake18 _)).mono ?_; clear hb; rintro e w1 ⟨rfl, hb⟩
  go_wp2_with fail
  refine (cut_yes ep s (by omega) (by omega) _).mono ?_
  rintro e w2 ⟨v, rfl, hr1, hb2⟩
  have hcl : cnt s.size ≤ 84 := by unfold cnt; omega
  have hcp : 0 < cnt s.size := by unfold cnt; omega
  have HPL := Lib.hid (show (pieces ep s.data.toList).length = cnt s.size by rw [pieces_length]; simp)
  obtain ⟨g1, cap1, rfl, hg1, hl1⟩ := hr1.form hcp
  have hP : ∀ k (hk : k < (pieces ep s.data.toList).length), PgAt w2 g1 (k * 6) (pieces ep s.data.toList)[k] := fun k hk => own_pg hr1 k hk
  have HP := Lib.hid hP
  have hb := hb.trans (hb2.mono hb.size)
  have HB := Lib.hid hb
  clear hP hr1 hb hb2 hg1
  have hJ0 := JS.boxed w2 w2 (Below.refl _ _)
  have hG := Lib.hid (show w2.heap.size = w2.heap.size from rfl)
  go_wp2_with fail
  revert hJ0 hG
  generalize w2.alloc (Obj.cells #[.bool false, .int .u32 0, .string ⟨#[]⟩] 54) = w3
  generalize hg : w2.heap.size = g
  intro hJ0 hG
  have HL1 := Lib.hid hl1
  have HG := Lib.hid hg
  clear hl1 hG hg
  go_loopw [6, 10, 11, 12, 13, 14, 15, 16, 54, 55, 56, 57, 58, 59, 60, 61, 62, 63, 64, 65, 66, 67, 68, 69, 70, 71, 72, 73, 74, 75, 76, 77, 78, 79, 80, 81, 82, 83, 84, 85, 86, 87, 88, 89, 90, 91, 92, 93, 94, 95, 96, 97, 98, 99, 100, 101, 102, 103, 104, 105, 106, 107, 108, 109, 110, 111, 112, 113, 114, 115, 116, 117, 118, 119, 120] (fun a6 a10 _ _ _ _ _ _ _ _ _ _ _ _ _ _ _ _ _ _ _ _ _ _ _ _ _ _ _ _ _ _ _ _ _ _ _ _ _ _ _ _ _ _ _ _ _ _ _ _ _ _ _ _ _ _ _ _ _ _ _ _ _ _ _ _ _ _ _ _ _ _ _ _ _ wr => ∃ k : Nat, k ≤ cnt s.size ∧ a10 = .int .i64 k ∧ a6 = .bool false ∧ JS w2 wr g (behind ep s.data.toList k)) (fun _ a10 _ _ _ _ _ _ _ _ _ _ _ _ _ _ _ _ _ _ _ _ _ _ _ _ _ _ _ _ _ _ _ _ _ _ _ _ _ _ _ _ _ _ _ _ _ _ _ _ _ _ _ _ _ _ _ _ _ _ _ _ _ _ _ _ _ _ _ _ _ _ _ _ _ _ => cnt s.size - (intOf a10).toNat)
  case atStart => exact ⟨0, Nat.zero_le _, rfl, rfl, by rw [show behind ep s.data.toList 0 = Jn.zero by simp [behind]]; exact hJ0⟩
  case round =>
    clear hJ0
    obtain ⟨k, hk, rfl, rfl, hJ⟩ := hrel
    by_cases hlt : k < cnt s.size
    · have HJ := Lib.hid hJ
      have HS := Lib.hid (show s.size ≤ 4096 by omega)
      obtain ⟨p, hp, hpg⟩ : ∃ p, p = piece ep s.data.toList k ∧ PgAt w2 g1 (k * 6) p := ⟨_, rfl, by
        have := HP.out k (by rw [HPL.out]; exact hlt)
        rwa [pieces_get] at this⟩
      have HPP := Lib.hid hp
      have HPG := Lib.hid hpg
      clear hJ hp hpg
      by_cases hla : k + 1 = cnt s.size
      · have hkl : ((k : Int) == (cnt s.size : Int) - 1) = true := by rw [beq_iff_eq]; omega
        have HLA := Lib.hid hla
        obtain ⟨q0, q1, q2, q3, q4, q5⟩ := HPG.out.inJS HJ.out HL1.out
        go_wp2_with fail
        · clear q0 q1 q2 q3 q4 q5
          refine (take_head_any _ g w2 _ (behind_len ep s.data.toList k (by have := HS.out; simpa using this)) HJ.out).mono ?_
          rintro e w4 ⟨rfl, hJ4, ht⟩
          have HJ := Lib.hid hJ4
          obtain ⟨q0, q1, q2, q3, q4, q5⟩ := HPG.out.inJS hJ4 HL1.out
          clear hJ4 ht
          go_wp2_with fail
          clear q0 q1 q2 q3 q4 q5
          refine (take_last_any ep s k g p w2 _ HLA.out HS.out HPP.out HJ.out).mono ?_
          rintro e w5 ⟨rfl, hJ5, ht⟩
          have HJ5 := Lib.hid hJ5
          obtain ⟨q0, q1, q2, q3, q4, q5⟩ := HPG.out.inJS hJ5 HL1.out
          clear hJ5 ht
          go_wp2_with fail
          refine (right_piece_any ep s k p (by have := HLA.out; omega) HPP.out _).mono ?_
          rintro e w6 ⟨rfl, hb6⟩
          have HJ6 := Lib.hid (HJ5.out.step hb6)
          clear hb6 q0 q1 q2 q3 q4 q5
          go_wp2_with fail
          refine (begun_last_any ep s k g HLA.out w2 _ HJ6.out).mono ?_
          rintro e w7 ⟨rfl, rfl⟩
          go_wp2_with fail
          exact ⟨⟨k + 1, by have := HLA.out; omega, by simp, rfl, HJ6.out⟩, by simp only [intOf]; omega⟩
        · clear q0 q1 q2 q3 q4 q5
          refine (take_last_any ep s k g p w2 _ HLA.out HS.out HPP.out HJ.out).mono ?_
          rintro e w5 ⟨rfl, hJ5, ht⟩
          have HJ5 := Lib.hid hJ5
          obtain ⟨q0, q1, q2, q3, q4, q5⟩ := HPG.out.inJS hJ5 HL1.out
          clear hJ5 ht
          go_wp2_with fail
          refine (right_piece_any ep s k p (by have := HLA.out; omega) HPP.out _).mono ?_
          rintro e w6 ⟨rfl, hb6⟩
          have HJ6 := Lib.hid (HJ5.out.step hb6)
          clear hb6 q0 q1 q2 q3 q4 q5
          go_wp2_with fail
          refine (begun_last_any ep s k g HLA.out w2 _ HJ6.out).mono ?_
          rintro e w7 ⟨rfl, rfl⟩
          go_wp2_with fail
          exact ⟨⟨k + 1, by have := HLA.out; omega, by simp, rfl, HJ6.out⟩, by simp only [intOf]; omega⟩
      · have hkl : ((k : Int) == (cnt s.size : Int) - 1) = false := by rw [beq_eq_false_iff_ne]; omega
        have HLA := Lib.hid (show k + 1 < cnt s.size by omega)
        obtain ⟨q0, q1, q2, q3, q4, q5⟩ := HPG.out.inJS HJ.out HL1.out
        go_wp2_with fail
        · clear q0 q1 q2 q3 q4 q5
          refine (take_head_any _ g w2 _ (behind_len ep s.data.toList k (by have := HS.out; simpa using this)) HJ.out).mono ?_
          rintro e w4 ⟨rfl, hJ4, ht⟩
          have HJ := Lib.hid hJ4
          obtain ⟨q0, q1, q2, q3, q4, q5⟩ := HPG.out.inJS hJ4 HL1.out
          clear hJ4 ht
          go_wp2_with fail
          clear q0 q1 q2 q3 q4 q5
          refine (take_mid_any ep s k g p w2 _ HLA.out HS.out HPP.out HJ.out).mono ?_
          rintro e w5 ⟨rfl, hJ5, ht⟩
          have HJ5 := Lib.hid hJ5
          obtain ⟨q0, q1, q2, q3, q4, q5⟩ := HPG.out.inJS hJ5 HL1.out
          clear hJ5 ht
          go_wp2_with fail
          refine (right_piece_any ep s k p (by have := HLA.out; omega) HPP.out _).mono ?_
          rintro e w6 ⟨rfl, hb6⟩
          have HJ6 := Lib.hid (HJ5.out.step hb6)
          clear hb6 q0 q1 q2 q3 q4 q5
          go_wp2_with fail
          refine (begun_mid_any ep s k g HLA.out w2 _ HJ6.out).mono ?_
          rintro e w7 ⟨rfl, rfl⟩
          go_wp2_with fail
          exact ⟨⟨k + 1, by have := HLA.out; omega, by simp, rfl, HJ6.out⟩, by simp only [intOf]; omega⟩
        · clear q0 q1 q2 q3 q4 q5
          refine (take_mid_any ep s k g p w2 _ HLA.out HS.out HPP.out HJ.out).mono ?_
          rintro e w5 ⟨rfl, hJ5, ht⟩
          have HJ5 := Lib.hid hJ5
          obtain ⟨q0, q1, q2, q3, q4, q5⟩ := HPG.out.inJS hJ5 HL1.out
          clear hJ5 ht
          go_wp2_with fail
          refine (right_piece_any ep s k p (by have := HLA.out; omega) HPP.out _).mono ?_
          rintro e w6 ⟨rfl, hb6⟩
          have HJ6 := Lib.hid (HJ5.out.step hb6)
          clear hb6 q0 q1 q2 q3 q4 q5
          go_wp2_with fail
          refine (begun_mid_any ep s k g HLA.out w2 _ HJ6.out).mono ?_
          rintro e w7 ⟨rfl, rfl⟩
          go_wp2_with fail
          exact ⟨⟨k + 1, by have := HLA.out; omega, by simp, rfl, HJ6.out⟩, by simp only [intOf]; omega⟩
    · have hke : k = cnt s.size := by omega
      subst hke
      have HJ := Lib.hid hJ
      have HPA := Lib.hid (show pagesP s.size = cnt s.size by unfold pagesP cnt; rw [if_neg (by omega)])
      clear hJ
      go_wp2_with fail
      refine (pages_any s.size (by omega) _).mono ?_
      rw [HPA.out]
      rintro e w4 ⟨rfl, rfl⟩
      go_wp2_with fail
      go_ret
      exact ⟨rfl, HB.out.trans (HJ.out.below.mono HB.out.size)⟩
end Go.Proofs.Ytmaaljfcnnlnpaa
