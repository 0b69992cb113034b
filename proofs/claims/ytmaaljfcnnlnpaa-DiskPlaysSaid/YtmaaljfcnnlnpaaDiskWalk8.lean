/-
  The document's example, and the sizes that are looked at.
-/
import Derived.Test.YtmaaljfcnnlnpaaDiskWalk7
namespace Go.Proofs.Ytmaaljfcnnlnpaa
open Go.RowKit

def FewR (n : Nat) (r : Ending) : Prop := ∃ b : Bool, r = .returned (.bool b) ∧ (b = true → n ≤ 60)

set_option maxRecDepth 100000 in
set_option maxHeartbeats 2000000 in
theorem few16 {W : World} {v : Value} {n : Nat} {l : Nat → Ac} (h : AcsAt W v n l) :
    Calls Try.prog 52 #[v] W fun r w' => FewR n r ∧ W = w' := by
  obtain ⟨a, cap, rfl, hn, h⟩ := h
  unfold maxLen at hn
  have H := Lib.hid h
  clear h
  go_enter Try.func52, Try.ntmps52
  go_wp2_with fail
  go_loop [3, 4, 5, 6, 7, 8, 9, 10, 11, 12, 13, 14, 15, 16, 17, 18, 19, 20] (fun a3 _ _ _ _ _ _ _ _ _ _ _ _ _ _ _ _ _ => ∃ k : Nat, k ≤ n ∧ k ≤ 61 ∧ a3 = .int .i64 k) (fun a3 _ _ _ _ _ _ _ _ _ _ _ _ _ _ _ _ _ => n - (intOf a3).toNat)
  case atStart => exact ⟨0, Nat.zero_le _, by omega, rfl⟩
  case round =>
    obtain ⟨k, hk, hk2, rfl⟩ := hrel
    by_cases hlt : k < n
    · by_cases h60 : k ≤ 60
      · rcases H.out with h0 | ⟨b, o, rfl, hc⟩
        · omega
        have c3 := (hc k hlt).c3
        obtain ⟨ka, kcap, hkv, _⟩ := (hc k hlt).keep
        have hm := (hc k hlt).kn
        unfold maxLen at hm
        rw [hkv] at c3
        generalize (l k).kn = m at *
        clear hc hkv H
        have c3' : W.cell? ⟨b, o + k * 67 + 66, none⟩ = some (.slice ka m kcap) := c3
        by_cases hm2 : 200 < m
        · go_wp2_with fail
          go_ret
          exact ⟨⟨false, rfl, fun h => by cases h⟩, rfl⟩
        · go_wp2_with fail
          exact ⟨⟨k + 1, by omega, by omega, by simp⟩, by simp only [intOf]; omega⟩
      · have h61 : k = 61 := by omega
        subst h61
        go_wp2_with fail
        go_ret
        exact ⟨⟨_, rfl, fun h => by simp at h; omega⟩, rfl⟩
    · have hke : k = n := by omega
      subst hke
      go_wp2_with fail
      go_ret
      exact ⟨⟨_, rfl, fun h => by simp at h; omega⟩, rfl⟩

def one64 : List UInt8 := 1 :: zero64.drop 1
theorem one64_length : one64.length = 64 := rfl

theorem run_one56 (w : World) : (Instr.build 56 #[(0, .int .u8 1)]).run Try.prog w = .ok (.agg (one64.map bv).toArray) w := by kernel_rfl

section
variable {ops : Array Oper} {rest : List Oper} {op : Oper} {a : Act} {w : World} {Q : Exit → Act → World → Prop}
theorem wpList_one56 (o : List UInt8) (hO : o = one64) (ho : op.op = .build 56 #[(0, .const (.int .u8 1))]) (hw : Region.wanted op (yielded ops a.tmps) = true)
    (h : wpList Try.prog ops Q rest (a.put op.dst (.agg (o.map bv).toArray)) w) : wpList Try.prog ops Q (op :: rest) a w := by
  refine wpList_wanted hw ?_
  subst hO
  unfold Oper.wp execOp
  simp [ho, Act.eval, run_one56, Result.andThen]
  exact h
theorem wpList_zero56' (z : List UInt8) (hz : z = zero64) (ho : op.op = .build 56 #[]) (hw : Region.wanted op (yielded ops a.tmps) = true)
    (h : wpList Try.prog ops Q rest (a.put op.dst (.agg (z.map bv).toArray)) w) : wpList Try.prog ops Q (op :: rest) a w := by
  subst hz
  exact wpList_zero56 ho hw h
end

set_option maxRecDepth 100000 in
set_option maxHeartbeats 4000000 in
theorem awake16 (w : World) : Calls Try.prog 51 #[] w fun r w' => r = .returned (.bool true) ∧ Below w.heap.size w w' := by
  have N := Lib.hid (fun W (hb : Below w.heap.size w W) => ds_new 4 (by decide) (by decide) hb)
  obtain ⟨o1, ho1⟩ : ∃ o1, o1 = one64 := ⟨_, rfl⟩
  obtain ⟨z, hz⟩ : ∃ z, z = zero64 := ⟨_, rfl⟩
  have ho1l : o1.length = 64 := by rw [ho1]; rfl
  have hzl : z.length = 64 := by rw [hz]; rfl
  have HO := Lib.hid ho1
  have HZ := Lib.hid hz
  have HL := Lib.hid ho1l
  have HZL := Lib.hid hzl
  obtain ⟨D1, hD1⟩ : ∃ D1, D1 = (Dk.new 4).burnt.wrote 0 o1 := ⟨_, rfl⟩
  obtain ⟨D2, hD2⟩ : ∃ D2 : Dk, D2 = { (D1.read 0).settled (kept 0 fun _ => false) with down := true } := ⟨_, rfl⟩
  obtain ⟨D3, hD3⟩ : ∃ D3 : Dk, D3 = { D2 with down := false } := ⟨_, rfl⟩
  have H1 := Lib.hid hD1
  have H2 := Lib.hid hD2
  have H3 := Lib.hid hD3
  have hs1 := Lib.hid (show D1.seen 0 = o1 by rw [hD1]; rfl)
  have hs3 := Lib.hid (show D3.seen 0 = z by rw [hD3, hD2, hD1, hz]; rfl)
  have hm1 := Lib.hid (show D1.may 0 = 0 by rw [hD1]; rfl)
  have hm2 := Lib.hid (show D2.may 0 = 7 by rw [hD2]; rfl)
  have hm3 := Lib.hid (show D3.may 0 = 0 by rw [hD3, hD2, hD1]; rfl)
  have hl1 := Lib.hid (show D1.loose.length ≤ 100000 by rw [hD1]; show 1 ≤ 100000; decide)
  have hl3 := Lib.hid (show D3.loose.length ≤ 100000 by rw [hD3, hD2]; show 0 ≤ 100000; decide)
  have he1 : ∀ W, (binOp .eql 56 (.agg (o1.map bv).toArray) (.agg (o1.map bv).toArray)).run Try.prog W = .ok (.bool true) W := fun W => by
    have := run_eql56 W o1 o1 ho1l ho1l
    rwa [beq_self_eq_true] at this
  have he2 : ∀ W, (binOp .eql 56 (.agg (z.map bv).toArray) (.agg (z.map bv).toArray)).run Try.prog W = .ok (.bool true) W := fun W => by
    have := run_eql56 W z z hzl hzl
    rwa [beq_self_eq_true] at this
  have HE1 := Lib.hid he1
  have HE2 := Lib.hid he2
  clear ho1 hz ho1l hzl hD1 hD2 hD3 he1 he2
  go_enter Try.func51, Try.ntmps51
  go_wp2_with fail
  refine (N.out _ (Below.refl _ _)).mono ?_
  rintro r w1 ⟨d, m1, m2, rfl, hS⟩
  have HS := Lib.hid hS
  clear hS N
  go_wp2_with (refine wpList_one56 o1 HO.out (by rfl) (by rfl) ?_)
  refine (ds_write HS.out 0 o1 HL.out rfl (by decide) (by decide) (by decide)).mono ?_
  rintro r w2 ⟨rfl, hS, _⟩
  rw [← H1.out] at hS
  have HS := Lib.hid hS
  clear hS
  go_wp2_with fail
  refine (ds_read HS.out 0 hm1.out hl1.out).mono ?_
  rintro r w3 ⟨rfl, hS, _⟩
  rw [hs1.out]
  have HS := Lib.hid hS
  clear hS
  go_wp2_with (refine wpList_new56 (by rfl) _ _ (by rfl) _ _ rfl (by rfl) (by rfl) o1 (by rfl) HL.out ?_; intro w4 hbuf hw4 hlt4; have HS := Lib.hid (HS.out.made hw4 hlt4); have HB := Lib.hid hbuf; clear hbuf hw4 hlt4)
  refine (ds_crash_arg HS.out hl1.out _ 0 (fun _ => false) (KeepAt.empty _ _)).mono ?_
  rintro r w5 ⟨rfl, hS, hst⟩
  rw [← H2.out] at hS
  have HB := Lib.hid (hS.buf hst (.head _) HB.out)
  have HS := Lib.hid hS
  clear hS hst
  go_wp2_with fail
  refine (ds_read_no HS.out 0 (by rw [hm2.out]; decide)).mono ?_
  rintro r w6 ⟨rfl, hS, hst⟩
  rw [hm2.out, ← HZ.out]
  have HB := Lib.hid (hS.buf hst (.head _) HB.out)
  have HS := Lib.hid hS
  clear hS hst
  go_wp2_with (refine wpList_new56 (by rfl) _ _ (by rfl) _ _ rfl (by rfl) (by rfl) z (by rfl) HZL.out ?_; intro w7 hbuf hw7 hlt7; have HS := Lib.hid (HS.out.made hw7 hlt7); have HB := Lib.hid (HB.out.step hw7); clear hbuf hw7 hlt7)
  refine (ds_up HS.out).mono ?_
  rintro r w8 ⟨rfl, hS, hst⟩
  rw [← H3.out] at hS
  have HB := Lib.hid (hS.buf hst (.tail _ (.head _)) HB.out)
  have HS := Lib.hid hS
  clear hS hst
  go_wp2_with fail
  refine (ds_read HS.out 0 hm3.out hl3.out).mono ?_
  rintro r w9 ⟨rfl, hS, hst⟩
  rw [hs3.out]
  have HB := Lib.hid (hS.buf hst (.tail _ (.head _)) HB.out)
  have HS := Lib.hid hS
  clear hS hst
  have he1 := HE1.out
  have he2 := HE2.out
  go_wp2_with (first
    | (refine wpList_new56 (by rfl) _ _ (by rfl) _ _ rfl (by rfl) (by rfl) z (by rfl) HZL.out ?_; intro w10 hbuf hw10 hlt10; have HS := Lib.hid (HS.out.made hw10 hlt10); have HB := Lib.hid (HB.out.step hw10); have HB3 := Lib.hid hbuf; clear hbuf hw10 hlt10)
    | (refine wpList_one56 o1 HO.out (by rfl) (by rfl) ?_)
    | (refine wpList_zero56' z HZ.out (by rfl) (by rfl) ?_)
    | (refine wpList_load56g _ (by rfl) (by rfl) _ (by rfl) o1 HB.out ?_)
    | (refine wpList_load56g _ (by rfl) (by rfl) _ (by rfl) z HB3.out ?_))
  go_ret
  exact ⟨rfl, HS.out.below⟩
end Go.Proofs.Ytmaaljfcnnlnpaa
