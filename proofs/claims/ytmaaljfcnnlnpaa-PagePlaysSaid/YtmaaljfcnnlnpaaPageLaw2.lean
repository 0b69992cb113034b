/-
  The walk of the law PageOnly.
-/
import Derived.Test.YtmaaljfcnnlnpaaPageLaw1
namespace Go.Proofs.Ytmaaljfcnnlnpaa
open Go.RowKit

/-- The bytes whose sum is being made right. -/
def mid (f : List UInt8) (bs : List UInt8) (k : Nat) : List UInt8 := f.take k ++ bs.drop k

theorem mid_zero (f bs : List UInt8) : mid f bs 0 = bs := by simp [mid]
theorem mid_length (f bs : List UInt8) (k : Nat) (hk : k ≤ f.length) (hb : k ≤ bs.length) : (mid f bs k).length = bs.length := by
  simp [mid]; omega
theorem mid_set (f bs : List UInt8) (k : Nat) (hk : k < f.length) (hb : k < bs.length) : (mid f bs k).set k f[k] = mid f bs (k + 1) := by
  unfold mid
  have hl : (f.take k).length = k := by simp; omega
  rw [List.set_append_right _ _ (by omega), hl, Nat.sub_self, List.drop_eq_getElem_cons hb, List.set_cons_zero, List.take_succ_eq_append_getElem hk, List.append_assoc]
  rfl
theorem mid_four (f bs : List UInt8) (h : f.length = 4) : mid f bs 4 = f ++ bs.drop 4 := by
  unfold mid
  rw [List.take_of_length_le (by omega)]

/-- The worlds of the loop. -/
structure BO (w W : World) (g : Nat) (bs : List UInt8) : Prop where
  below : Below w.heap.size w W
  buf : Buf W g bs
  ge : w.heap.size ≤ g
theorem BO.step {w W W' : World} {g : Nat} {bs : List UInt8} (h : BO w W g bs) (hb : Below W.heap.size W W') : BO w W' g bs :=
  ⟨h.below.trans (hb.mono h.below.size), h.buf.step hb, h.ge⟩
theorem BO.set {w W : World} {g : Nat} {bs : List UInt8} (h : BO w W g bs) (j : Nat) (x : UInt8) : BO w (W.setCell ⟨g, j, none⟩ (bv x)) g (bs.set j x) :=
  ⟨h.below.setCell h.ge _, h.buf.set j x, h.ge⟩
theorem BO.start (w : World) (bs : List UInt8) (hl : bs.length = 64) (t : TypeId) : BO w (w.alloc (.cells (bs.map bv).toArray t)) w.heap.size bs :=
  ⟨(Below.refl _ _).alloc (Nat.le_refl _) _, Buf.new w bs _ t rfl hl, Nat.le_refl _⟩

theorem bytesArr_get (l : List UInt8) (k : Nat) (_h : k < l.length) (h2 : k < (ByteArray.mk l.toArray).size) : (ByteArray.mk l.toArray)[k] = l[k] := by
  exact List.getElem_toArray _

set_option maxRecDepth 100000 in
set_option maxHeartbeats 4000000 in
theorem pageOnly_walk (bs : List UInt8) (hl : bs.length = 64) (w : World) :
    Calls Try.prog 17 #[.agg (bs.map bv).toArray] w fun e w' => e = .returned (.bool true) ∧ Below w.heap.size w w' := by
  have A := Lib.hid (fun W => awake17 W)
  have S0 := Lib.hid (BO.start w bs hl 55)
  have S := Lib.hid (fun W => refsum_any ⟨(bs.drop 4).toArray⟩ (by unfold maxLen; simp [ByteArray.size]; omega) W)
  obtain ⟨f, hf⟩ : ∃ f, four (CrcP.sum (bs.drop 4)) = f := ⟨_, rfl⟩
  have hfl : f.length = 4 := by rw [← hf]; rfl
  have F := Lib.hid (fun W => reffour_any (CrcP.sum (bs.drop 4)) (CrcP.sum_lt _) W)
  rw [hf] at F
  have HF := Lib.hid hf
  clear hf
  have hsf : (ByteArray.mk f.toArray).size = 4 := by simpa [ByteArray.size] using hfl
  go_enter Try.func17, Try.ntmps17
  go_wp2_with fail
  refine (A.out _).mono ?_
  rintro e w1 ⟨rfl, hb⟩
  have HS1 := Lib.hid (S0.out.step hb)
  clear hb S0
  generalize hg : w.heap.size = g at HS1 ⊢
  have hcv : (convert 25 9 (.slice (some ⟨g, 4, none⟩) 60 60)).run Try.prog w1 = .ok (.string ⟨(bs.drop 4).toArray⟩) w1 := by
    have := HS1.out.buf.bytesFrom 4 60
    rw [List.take_of_length_le (by simp; omega)] at this
    exact run_bytes_str this (by simp; omega)
  go_wp2_with fail
  refine (S.out _).mono ?_
  rintro e w2 ⟨rfl, rfl⟩
  go_wp2_with fail
  refine (F.out _).mono ?_
  rintro e w2 ⟨rfl, hb⟩
  have HS2 := Lib.hid (HS1.out.step hb)
  clear hb HS1 hcv
  go_wp2_with fail
  go_loopw [4, 15, 16, 17, 18, 19, 20, 21, 22, 23] (fun a4 _ _ _ _ _ _ _ _ _ wr => ∃ k : Nat, k ≤ 4 ∧ a4 = .int .i64 k ∧ BO w wr g (mid f bs k)) (fun a4 _ _ _ _ _ _ _ _ _ _ => 4 - (intOf a4).toNat)
  case atStart => exact ⟨0, by omega, rfl, by rw [mid_zero]; exact HS2.out⟩
  case round =>
    obtain ⟨k, hk, rfl, hB⟩ := hrel
    by_cases hlt : k < 4
    · have hkf : k < f.length := by omega
      have ck := hB.buf.cell k (by rw [mid_length _ _ _ (by omega) (by omega)]; omega)
      have fk := hB.buf.frozen
      have hgk : (ByteArray.mk f.toArray)[k]'(by rw [hsf]; exact hlt) = f[k] := bytesArr_get f k hkf _
      have HB := Lib.hid hB
      clear hB
      go_wp2_with fail
      refine ⟨⟨k + 1, by omega, by simp, ?_⟩, ?_⟩
      · rw [← mid_set f bs k hkf (by omega)]
        exact HB.out.set k f[k]
      · simp only [intOf]; omega
    · have hk4 : k = 4 := by omega
      subst hk4
      have hl1 : (resum bs).length = 64 := resum_length bs hl
      have hB1 : BO w wr g (resum bs) := by
        have e : mid f bs 4 = resum bs := by rw [mid_four _ _ hfl, ← HF.out]; rfl
        rwa [e] at hB
      have hsu := resum_summed bs
      have HB := Lib.hid hB1
      clear hB hB1
      generalize resum bs = b1 at *
      rcases read_cases b1 hsu with hr | ⟨hr, hri, hla⟩
      · have R : ∀ W, Calls Try.prog 44 #[.agg (b1.map bv).toArray] W fun r w' => r = .returned (.tuple #[.agg #[.int .u32 0, .int .u32 0, .int .i64 0, .bool false, .bool false, .string ⟨#[]⟩], .int .i64 4]) ∧ Below W.heap.size W w' := fun W => read_val b1 hl1 noPg 4 hr W
        have HR := Lib.hid R
        clear R hr hsu
        go_wp2_with (refine wpList_load55g _ (by rfl) (by rfl) _ (by rfl) b1 HB.out.buf ?_)
        refine (HR.out _).mono ?_
        rintro e w3 ⟨rfl, hb⟩
        have HB3 := Lib.hid (HB.out.step hb)
        clear hb HB
        go_wp2_with fail
        go_ret
        exact ⟨rfl, HB3.out.below.alloc HB3.out.below.size _⟩
      · obtain ⟨h1, h2, h3, h4, h5⟩ := parse_lt b1
        generalize parse b1 = p at *
        have R := Lib.hid (fun W => read_val b1 hl1 p 0 hr W)
        have L := Lib.hid (fun W => lay_yes p hri h1 h2 W)
        have G := Lib.hid (fun W => right_any p (by unfold maxLen; omega) W)
        rw [hla] at L
        rw [hri] at G
        have heq : ∀ W, (binOp .eql 56 (.agg (b1.map bv).toArray) (.agg (b1.map bv).toArray)).run Try.prog W = .ok (.bool true) W := fun W => by
          have := run_eql56 W b1 b1 hl1 hl1
          rwa [show (b1 == b1) = true by simp] at this
        clear hr hsu hla
        go_wp2_with (refine wpList_load55g _ (by rfl) (by rfl) _ (by rfl) b1 HB.out.buf ?_)
        refine (R.out _).mono ?_
        rintro e w3 ⟨rfl, hb⟩
        have HB3 := Lib.hid (HB.out.step hb)
        clear hb HB
        go_wp2_with (first
          | (refine wpList_new44 (by rfl) _ _ (by rfl) _ _ rfl (by rfl) (by rfl) p (by rfl) ?_; intro w4 hpg hw4 hlt4; have HQ := Lib.hid hpg; have HB4 := Lib.hid (HB3.out.step hw4); clear hpg hw4)
          | refine wpList_load44g _ (by rfl) (by rfl) _ 0 (by rfl) p HQ.out ?_)
        refine (L.out _).mono ?_
        rintro e w5 ⟨rfl, hb⟩
        have HB5 := Lib.hid (HB4.out.step hb)
        have HQ5 := Lib.hid (HQ.out.below hb hlt4)
        have hlt5 : w3.heap.size < w5.heap.size := Nat.lt_of_lt_of_le hlt4 hb.size
        clear hb HB4 HQ
        generalize w3.heap.size = gq at *
        go_wp2_with (first
          | (refine wpList_new56 (by rfl) _ _ (by rfl) _ _ rfl (by rfl) (by rfl) b1 (by rfl) hl1 ?_; intro w6 hbuf hw6 hlt6; have HC := Lib.hid hbuf; have HB6 := Lib.hid (HB5.out.step hw6); have HQ6 := Lib.hid (HQ5.out.below hw6 hlt5); clear hbuf hw6)
          | refine wpList_load56g _ (by rfl) (by rfl) _ (by rfl) b1 HC.out ?_
          | refine wpList_load55g _ (by rfl) (by rfl) _ (by rfl) b1 HB6.out.buf ?_
          | refine wpList_load44g _ (by rfl) (by rfl) _ 0 (by rfl) p HQ6.out ?_)
        refine (G.out _).mono ?_
        rintro e w7 ⟨rfl, hb⟩
        go_wp2_with fail
        go_ret
        exact ⟨rfl, (HB6.out.step hb).below⟩
end Go.Proofs.Ytmaaljfcnnlnpaa
