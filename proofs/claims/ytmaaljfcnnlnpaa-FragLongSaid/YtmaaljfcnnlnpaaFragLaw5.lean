/-
  The walk of the law FragLong.
-/
import Derived.Test.YtmaaljfcnnlnpaaFragLaw4
import Derived.Deep.OwnRows
namespace Go.Proofs.Ytmaaljfcnnlnpaa
open Go.RowKit

def behind2 (ep : Nat) (rec : List UInt8) (k : Nat) : Jn := if k = 0 then Jn.zero else ⟨true, ep, rec.take (49 * k)⟩

theorem take_nolast (ep : Nat) (rec : List UInt8) (k : Nat) (h : k < cnt rec.length) (hl : rec.length ≤ 4096) :
    (behind2 ep rec k).take { piece ep rec k with la := false } = (behind2 ep rec (k + 1), [], false, 0) := by
  have hr : Pg.right { piece ep rec k with la := false } = true := by
    have h1 := plen_pos _ _ h
    have h2 := plen_le rec.length k
    have h3 := chunk_length rec k
    unfold Pg.right piece
    rw [Bool.and_eq_true, Bool.and_eq_true]
    exact ⟨⟨rfl, decide_eq_true (by show 1 ≤ (chunk rec k).length; omega)⟩, decide_eq_true (by show (chunk rec k).length ≤ 49; omega)⟩
  have hc := chunk_length rec k
  have hp := plen_le rec.length k
  have hfit : (behind2 ep rec k).fits { piece ep rec k with la := false } = true := by
    unfold Jn.fits behind2 piece
    by_cases h0 : k = 0
    · subst h0
      simp [Jn.zero]; omega
    · rw [if_neg (by omega)]
      have : 49 * k + (chunk rec k).length ≤ 4096 := by
        rw [hc]; unfold plen; unfold cnt at h; omega
      simp [h0]; omega
  have hrec : (behind2 ep rec k).rc ++ chunk rec k = rec.take (49 * (k + 1)) := by
    unfold behind2
    by_cases h0 : k = 0
    · subst h0
      rw [if_pos rfl]
      exact take_chunk rec 0
    · rw [if_neg (by omega)]
      exact take_chunk rec k
  unfold Jn.take
  rw [if_pos hr, if_pos (show Pg.ki { piece ep rec k with la := false } = 2 from rfl), if_pos hfit, if_neg (by simp)]
  show ((⟨true, ep, (behind2 ep rec k).rc ++ chunk rec k⟩ : Jn), ([] : List UInt8), false, (0 : Int)) = _
  rw [hrec]
  rfl

theorem behind2_len (ep : Nat) (rec : List UInt8) (k : Nat) (h : rec.length ≤ 4096) : (behind2 ep rec k).rc.length ≤ 4096 := by
  unfold behind2
  split
  · simp [Jn.zero]
  · simp; omega

theorem take_nolast_any (ep : Nat) (s : ByteArray) (k g : Nat) (p : Pg) (w W : World) (hk : k < cnt s.size) (hs : s.size ≤ 4096) (hp : p = piece ep s.data.toList k) (hj : JS w W g (behind2 ep s.data.toList k)) :
    Calls Try.prog 45 #[.pointer (some ⟨g, 0, none⟩), .agg #[.int .u32 p.ep, .int .u32 p.nu, .int .i64 p.ki, .bool p.fi, .bool false, .string ⟨p.da.toArray⟩]] W
      fun r w' => r = .returned (.tuple #[.string ⟨#[]⟩, .bool false, .int .i64 0]) ∧ JS w w' g (behind2 ep s.data.toList (k + 1)) ∧ Tk W w' g 0 := by
  have hl : s.data.toList.length = s.size := by simp
  have h2 : p.da.length ≤ 49 := by subst hp; show (chunk _ _).length ≤ 49; rw [chunk_length]; exact plen_le _ _
  refine (take_any _ { p with la := false } g 0 W hj.at' hj.lt (behind2_len _ _ _ (by omega)) (by unfold maxLen; show p.da.length ≤ _; omega) hj.frozen).mono ?_
  rintro e w' ⟨rfl, h3, h4⟩
  subst hp
  rw [take_nolast ep s.data.toList k (by rw [hl]; exact hk) (by omega)] at h3 ⊢
  exact ⟨rfl, hj.took h3 h4, h4⟩

theorem take_over_any (ep : Nat) (rec : List UInt8) (hr : rec.length = 4096) (g : Nat) (w W : World) (hj : JS w W g (behind2 ep rec 84)) :
    Calls Try.prog 45 #[.pointer (some ⟨g, 0, none⟩), .agg #[.int .u32 ep, .int .u32 0, .int .i64 2, .bool false, .bool false, .string ⟨#[120]⟩]] W
      fun r w' => r = .returned (.tuple #[.string ⟨#[]⟩, .bool false, .int .i64 4]) ∧ JS w w' g Jn.zero ∧ Tk W w' g 0 := by
  refine (take_any _ ⟨ep, 0, 2, false, false, [120]⟩ g 0 W hj.at' hj.lt (behind2_len _ _ _ (by omega)) (by show 1 ≤ maxLen; decide) hj.frozen).mono ?_
  rintro e w' ⟨rfl, h3, h4⟩
  have ht : (behind2 ep rec 84).take ⟨ep, 0, 2, false, false, [120]⟩ = (Jn.zero, [], false, 4) := by
    unfold Jn.take
    rw [if_pos (by rfl), if_pos rfl, if_neg]
    unfold Jn.fits behind2
    simp [hr]
  rw [ht] at h3 ⊢
  exact ⟨rfl, hj.took h3 h4, h4⟩

/-- The text's bytes so far. -/
structure Fill (w W : World) (B c i : Nat) : Prop where
  below : Below w.heap.size w W
  cell : ∀ j, j < 4096 → W.cell? ⟨B, j, none⟩ = some (.int .u8 ((if j < i then c else 0 : Nat) : Int))
  frozen : ∀ j, W.frozen? ⟨B, j, none⟩ = false
  ge : w.heap.size ≤ B

theorem Fill.step {w W : World} {B c i : Nat} (h : Fill w W B c i) (hi : i < 4096) : Fill w (W.setCell ⟨B, i, none⟩ (.int .u8 (c : Int))) B c (i + 1) :=
  ⟨h.below.setCell h.ge _, fun j hj => by
    by_cases e : j = i
    · subst e
      rw [World.cell?_setCell_same _ _ _ (h.cell j hj), if_pos (by omega)]
    · rw [World.cell?_setCell_other _ _ _ _ (fun e2 => e (by injection e2 with _ e3; exact e3.symm)), h.cell j hj]
      congr 3
      split <;> split <;> first | rfl | omega, fun j => by rw [World.frozen?_setCell]; exact h.frozen j, h.ge⟩

theorem Fill.start {w W : World} (hb : Below w.heap.size w W) (c : Nat) : Fill w (W.alloc (.cells (madeCells #[.int .u8 0] 4096) 5)) W.heap.size c 0 :=
  ⟨hb.alloc hb.size _, fun j hj => by
    rw [World.cell?_alloc_new, if_neg (by omega)]
    have : (madeCells #[Value.int .u8 0] 4096)[j]? = (List.replicate 4096 (Value.int .u8 0))[j]? := by rw [← toList_madeCells_one, Array.getElem?_toList]
    rw [this, List.getElem?_replicate, if_pos hj]
    rfl, fun j => World.frozen?_alloc_new _ _ _ _, hb.size⟩

set_option maxRecDepth 100000 in
theorem Fill.bytes {w W : World} {B c i : Nat} (h : Fill w W B c i) (hc : c < 256) (hi : 4096 ≤ i) : BytesAt W B 0 (List.replicate 4096 (UInt8.ofNat c)) := by
  intro j hj
  have hj2 : j < 4096 := by simpa using hj
  rw [Nat.zero_add, h.cell j hj2, if_pos (by omega), List.getElem_replicate]
  simp [bv, Nat.mod_eq_of_lt hc]

theorem BytesAt.took {W W' : World} {B g og : Nat} {bs : List UInt8} (h : BytesAt W B 0 bs) (hb : Tk W W' g og) (hlt : B < W.heap.size) (hne : B ≠ g) : BytesAt W' B 0 bs :=
  fun j hj => (World.cell?_of_block (w := W) (hb.block B hlt hne)).trans (h j hj)
theorem BytesAt.below' {W W' : World} {n B : Nat} {bs : List UInt8} (h : BytesAt W B 0 bs) (hb : Below n W W') (hlt : B < n) : BytesAt W' B 0 bs :=
  fun j hj => (hb.cell (p := ⟨B, 0 + j, none⟩) hlt).trans (h j hj)

theorem info5 : (Try.prog.info? 5).map (fun i => (i.zero, i.size, i.bytes)) = some (some (.int .u8 0), 1, 1) := by kernel_rfl

set_option maxRecDepth 100000 in
set_option maxHeartbeats 4000000 in
theorem fragLong_walk (ep c : Nat) (hc : c < 256) (w : World) :
    Calls Try.prog 13 #[.int .u32 ep, .int .u8 c] w fun e w' => e = .returned (.bool true) ∧ Below w.heap.size w w' := by
  have hb := Below.refl w.heap.size w
  have hmk : ∀ w : World, (Instr.makeSlice 25 (.int .i64 4096) (.int .i64 4096)).run Try.prog w = .ok (.slice (some ⟨w.heap.size, 0, none⟩) 4096 4096) (w.alloc (.cells (madeCells #[.int .u8 0] 4096) 5)) := fun w =>
    run_make_row' (P := Try.prog) 25 5 (.int .u8 0) 1 Try.underlying25 info5 rfl .i64 .i64 4096 (by decide) (by decide) w
  go_enter Try.func13, Try.ntmps13
  go_wp2_with fail
  refine (below_rel hb (awake18 _)).mono ?_; clear hb; rintro e w1 ⟨rfl, hb⟩
  have HB1 := Lib.hid hb
  have hF0 := Fill.start (Below.refl w1.heap.size w1) c
  clear hb
  go_wp2_with fail
  clear hmk
  revert hF0
  generalize w1.alloc (.cells (madeCells #[.int .u8 0] 4096) 5) = w2
  generalize hB : w1.heap.size = B
  have HBB := Lib.hid hB
  intro hF0
  clear hB
  go_loopw [6, 26, 27, 28, 29, 30, 31, 32, 33, 34, 35] (fun a6 _ _ _ _ _ _ _ _ _ _ wr => ∃ i : Nat, i ≤ 4096 ∧ a6 = .int .i64 i ∧ Fill w1 wr B c i) (fun a6 _ _ _ _ _ _ _ _ _ _ _ => 4096 - (intOf a6).toNat)
  case atStart => exact ⟨0, Nat.zero_le _, rfl, hF0⟩
  case round =>
    clear hF0
    obtain ⟨i, hi, rfl, hF⟩ := hrel
    by_cases hlt : i < 4096
    · have c0 := hF.cell i hlt
      have f0 := hF.frozen
      have HF := Lib.hid hF
      clear hF
      go_wp2_with fail
      exact ⟨⟨i + 1, by omega, by simp, HF.out.step hlt⟩, by simp only [intOf]; omega⟩
    · have hie : i = 4096 := by omega
      subst hie
      have hbs := hF.bytes hc (Nat.le_refl _)
      have HB := Lib.hid (HB1.out.trans (hF.below.mono HB1.out.size))
      have hBl : B < wr.heap.size := cell_lt (hF.cell 0 (by decide))
      obtain ⟨S, hS⟩ : ∃ S : ByteArray, S = ⟨(List.replicate 4096 (UInt8.ofNat c)).toArray⟩ := ⟨_, rfl⟩
      have hSs : S.size = 4096 := by subst hS; simp [ByteArray.size]
      have HCV := Lib.hid (show ∀ W : World, BytesAt W B 0 (List.replicate 4096 (UInt8.ofNat c)) → (convert 25 9 (.slice (some ⟨B, 0, none⟩) 4096 4096)).run Try.prog W = .ok (.string S) W from
        fun W h => by rw [hS]; exact run_bytes_str h (by simp))
      have hcv := HCV.out wr hbs
      have HBS := Lib.hid hbs
      have HSS := Lib.hid hSs
      clear hF hbs hS hSs
      go_wp2_with fail
      refine (cut_yes ep S (by rw [HSS.out]; decide) (by rw [HSS.out]; decide) _).mono ?_
      clear hcv
      have hcn : cnt S.size = 84 := by rw [HSS.out]; rfl
      rw [hcn]
      have HCN := Lib.hid hcn
      clear hcn
      rintro e w4 ⟨v, rfl, hr1, hb2⟩
      have HPL := Lib.hid (show (pieces ep S.data.toList).length = 84 by rw [pieces_length, ← HCN.out]; simp)
      obtain ⟨g1, cap1, rfl, hg1, hl1⟩ := hr1.form (by decide)
      have HP := Lib.hid (show PgsAt w4 g1 (pieces ep S.data.toList) from ⟨fun k hk => own_pg hr1 k hk, hl1⟩)
      have HBS4 := Lib.hid (HBS.out.below' hb2 hBl)
      have HBL := Lib.hid (Nat.lt_of_lt_of_le hBl hb2.size)
      have HB4 := Lib.hid (HB.out.trans (hb2.mono HB.out.size))
      have hJ0 := JS.boxed w4 w4 (Below.refl _ _)
      clear hr1 hb2 hg1 hBl HB
      go_wp2_with fail
      have HGE := Lib.hid (show w4.heap.size ≤ w4.heap.size from Nat.le_refl _)
      have HG1 := Lib.hid hl1
      clear hl1
      revert hJ0 HGE
      generalize w4.alloc (Obj.cells #[.bool false, .int .u32 0, .string ⟨#[]⟩] 54) = w5
      generalize hgg : w4.heap.size = g
      have HGG := Lib.hid hgg
      intro hJ0 HGE
      clear hgg
      go_loopw [10, 11, 12, 13, 45, 46, 47, 48, 49, 50, 51, 52, 53, 54, 55, 56, 57, 58, 59, 60, 61, 62, 63, 64, 65, 66, 67, 68, 69, 70, 71, 72, 73, 74, 75, 76, 77, 78, 79, 80] (fun a10 _ _ _ _ _ _ _ _ _ _ _ _ _ _ _ _ _ _ _ _ _ _ _ _ _ _ _ _ _ _ _ _ _ _ _ _ _ _ _ wr => ∃ k : Nat, k ≤ 84 ∧ a10 = .int .i64 k ∧ JS w4 wr g (behind ep S.data.toList k)) (fun a10 _ _ _ _ _ _ _ _ _ _ _ _ _ _ _ _ _ _ _ _ _ _ _ _ _ _ _ _ _ _ _ _ _ _ _ _ _ _ _ _ => 84 - (intOf a10).toNat)
      case atStart => exact ⟨0, Nat.zero_le _, rfl, by rw [show behind ep S.data.toList 0 = Jn.zero by simp [behind]]; exact hJ0⟩
      case round =>
        clear hJ0
        obtain ⟨k, hk, rfl, hJ⟩ := hrel
        have HJ := Lib.hid hJ
        have HPk := Lib.hid (HP.out.below hJ.below HG1.out)
        by_cases hlk : k < 84
        · obtain ⟨p, hp, hpg⟩ : ∃ p, p = piece ep S.data.toList k ∧ PgAt wr g1 (k * 6) p := ⟨_, rfl, by
            have := HPk.out.pg k (by rw [HPL.out]; exact hlk)
            rwa [pieces_get] at this⟩
          have HPP := Lib.hid hp
          obtain ⟨q0, q1, q2, q3, q4, q5⟩ := hpg
          clear hp hJ
          have HS := Lib.hid (show S.size ≤ 4096 by rw [HSS.out]; decide)
          by_cases hla : k + 1 = 84
          · have hke : k = 83 := by omega
            subst hke
            go_wp2_with fail
            refine (take_last_any ep S 83 g p w4 _ (by rw [HCN.out]) HS.out HPP.out HJ.out).mono ?_
            rintro e w6 ⟨rfl, hJ6, ht⟩
            have HJ6 := Lib.hid hJ6
            have hcv := HCV.out w6 ((HBS4.out.below' HJ.out.below HBL.out).took ht (Nat.lt_of_lt_of_le HBL.out HJ.out.below.size) (by have := HBL.out; have := HGG.out; omega))
            clear hJ6 ht q0 q1 q2 q3 q4 q5
            go_wp2_with fail
            exact ⟨⟨84, by omega, by simp, HJ6.out⟩, by simp only [intOf]; omega⟩
          · have hkl : ((k : Int) == 83) = false := by rw [beq_eq_false_iff_ne]; omega
            go_wp2_with fail
            refine (take_mid_any ep S k g p w4 _ (by rw [HCN.out]; omega) HS.out HPP.out HJ.out).mono ?_
            rintro e w6 ⟨rfl, hJ6, ht⟩
            have HJ6 := Lib.hid hJ6
            clear hJ6 ht q0 q1 q2 q3 q4 q5
            go_wp2_with fail
            exact ⟨⟨k + 1, by omega, by simp, HJ6.out⟩, by simp only [intOf]; omega⟩
        · have hke : k = 84 := by omega
          subst hke
          have HB5 := Lib.hid (HB4.out.trans (hJ.below.mono HB4.out.size))
          obtain ⟨wq, hwq⟩ : ∃ x, x = wr := ⟨_, rfl⟩
          subst hwq
          have hK0 := JS.boxed wq wq (Below.refl _ _)
          have HG5 := Lib.hid (Nat.lt_of_lt_of_le HG1.out hJ.below.size)
          clear hJ
          rw [show ((84 : Nat) : Int) = (84 : Int) from rfl]
          go_wp2_with fail
          revert hK0
          generalize wq.alloc (Obj.cells #[.bool false, .int .u32 0, .string ⟨#[]⟩] 54) = w7
          generalize hhh : wq.heap.size = h
          have HHH := Lib.hid hhh
          intro hK0
          clear hhh
          go_loopw [15, 16, 17, 18, 19, 83, 84, 85, 86, 87, 88, 89, 90, 91, 92, 93, 94, 95, 96, 97, 98, 99, 100, 101, 102, 103, 104, 105] (fun a15 _ _ _ _ _ _ _ _ _ _ _ _ _ _ _ _ _ _ _ _ _ _ _ _ _ _ _ wr => ∃ k : Nat, k ≤ 84 ∧ a15 = .int .i64 k ∧ JS wq wr h (behind2 ep S.data.toList k)) (fun a15 _ _ _ _ _ _ _ _ _ _ _ _ _ _ _ _ _ _ _ _ _ _ _ _ _ _ _ _ => 84 - (intOf a15).toNat)
          case atStart => exact ⟨0, Nat.zero_le _, rfl, by rw [show behind2 ep S.data.toList 0 = Jn.zero by simp [behind2]]; exact hK0⟩
          case round =>
            clear hK0
            obtain ⟨k, hk, rfl, hJ⟩ := hrel
            have HK := Lib.hid hJ
            have hgq : g1 < wq.heap.size := HG5.out
            have HPq := Lib.hid (HPk.out.below hJ.below hgq)
            have hltr := hJ.lt
            clear hJ
            have HS := Lib.hid (show S.size ≤ 4096 by rw [HSS.out]; decide)
            by_cases hlk : k < 84
            · obtain ⟨p, hp, hpg⟩ : ∃ p, p = piece ep S.data.toList k ∧ PgAt wr g1 (k * 6) p := ⟨_, rfl, by
                have := HPq.out.pg k (by rw [HPL.out]; exact hlk)
                rwa [pieces_get] at this⟩
              have HPP := Lib.hid hp
              obtain ⟨q0, q1, q2, q3, q4, q5⟩ := hpg
              clear hp
              go_wp2_with fail
              refine (take_nolast_any ep S k h p wq _ (by rw [HCN.out]; omega) HS.out HPP.out (HK.out.step ((Below.refl _ _).alloc (Nat.le_refl _) _))).mono ?_
              rintro e w8 ⟨rfl, hJ8, ht⟩
              have HJ8 := Lib.hid hJ8
              clear hJ8 ht q0 q1 q2 q3 q4 q5
              go_wp2_with fail
              exact ⟨⟨k + 1, by omega, by simp, HJ8.out⟩, by simp only [intOf]; omega⟩
            · have hke : k = 84 := by omega
              subst hke
              go_wp2_with fail
              refine (take_over_any ep S.data.toList (by have := HSS.out; simpa using this) h wq _ HK.out).mono ?_
              rintro e w8 ⟨rfl, hJ8, ht⟩
              have HJ8 := Lib.hid hJ8
              clear hJ8 ht
              go_wp2_with fail
              refine (begun_any _ h 0 _ HJ8.out.at').mono ?_
              rintro e w9 ⟨rfl, rfl⟩
              go_wp2_with fail
              go_ret
              exact ⟨rfl, HB5.out.trans (HJ8.out.below.mono HB5.out.size)⟩
end Go.Proofs.Ytmaaljfcnnlnpaa
