/-
  The walks of the document's own sum and bytes, and of the law's 'with'.
-/
import Derived.Test.YtmaaljfcnnlnpaaCrcWalk3
import Derived.Deep.RegionLaw
import Derived.Deep.AppendLies
namespace Go.Proofs.Ytmaaljfcnnlnpaa
open Go.RowKit

/-- Two texts made one, byte by byte. -/
def withL (s t : List UInt8) : List UInt8 := List.zipWith (fun a b => a ^^^ b) s t

theorem withL_append (a b : List UInt8) (x y : UInt8) (h : a.length = b.length) : withL (a ++ [x]) (b ++ [y]) = withL a b ++ [x ^^^ y] := by
  unfold withL; rw [List.zipWith_append h]; rfl

theorem withL_snoc (s t : ByteArray) (k : Nat) (h1 : k < s.size) (h2 : k < t.size) :
    (withL (s.data.toList.take (k + 1)) (t.data.toList.take (k + 1))).map bv = (withL (s.data.toList.take k) (t.data.toList.take k)).map bv ++ [.int .u8 (((s[k]).toNat ^^^ (t[k]).toNat : Nat) : Int)] := by
  rw [take_snoc s k h1, take_snoc t k h2, withL_append _ _ _ _ (by simp; omega), List.map_append]
  simp [bv, UInt8.toNat_xor]

theorem withL_all (s t : ByteArray) (k : Nat) (h1 : k ≤ s.size) (h2 : k ≤ t.size) (h : ¬ (k < s.size ∧ k < t.size)) :
    withL (s.data.toList.take k) (t.data.toList.take k) = withL s.data.toList t.data.toList := by
  unfold withL
  rw [← List.take_zipWith]
  exact List.take_of_length_le (by simp; omega)

theorem info5 : (Try.prog.info? 5).map (fun i => (i.zero, i.size, i.bytes)) = some (some (.int .u8 0), 1, 1) := by kernel_rfl

set_option maxRecDepth 100000 in
set_option maxHeartbeats 400000 in
theorem with_any (s t : ByteArray) (hs : s.size ≤ maxLen) (ht : t.size ≤ maxLen) (hn : min s.size t.size ≤ 1000000) (w : World) :
    Calls Try.prog 31 #[.string s, .string t] w fun e w' => e = .returned (.string ⟨(withL s.data.toList t.data.toList).toArray⟩) ∧ Below w.heap.size w w' := by
  unfold maxLen at hs ht
  obtain ⟨i0, hi, hz0, hz1, hz2⟩ := info_parts info5
  have hB0 := Below.refl w.heap.size w
  go_enter Try.func31, Try.ntmps31
  go_wp2
  go_loopw [5, 6, 7, 8, 9, 10, 11, 12, 13, 14, 15, 16, 17, 18, 19, 20, 21, 22, 23, 24, 25, 26, 27, 28] (fun a5 a6 a7 a8 a9 a10 a11 a12 a13 a14 a15 a16 a17 a18 a19 a20 a21 a22 a23 a24 a25 a26 a27 a28 wr => ∃ k : Nat, k ≤ s.size ∧ k ≤ t.size ∧ a6 = .int .i64 k ∧ wr.ownsRow w.heap.size 5 1 a5 k ((withL (s.data.toList.take k) (t.data.toList.take k)).map bv) ∧ Below w.heap.size w wr) (fun _ a6 _ _ _ _ _ _ _ _ _ _ _ _ _ _ _ _ _ _ _ _ _ _ _ => s.size - (intOf a6).toNat)
  case atStart => exact ⟨0, by omega, by omega, rfl, World.ownsRow_nil _ _ _ _, hB0⟩
  case round =>
    clear hB0
    obtain ⟨k, hk, hk2, rfl, hown, hB⟩ := hrel
    by_cases hlt : k < s.size ∧ k < t.size
    · obtain ⟨hl1, hl2⟩ := hlt
      have hO := Lib.hid hown
      have hsz := hB.size
      have hBB := Lib.hid hB
      clear hown hB
      have hx : bits BinOp.xor IntKind.u8 ((s[k]).toNat : Int) ((t[k]).toNat : Int) = (((s[k]).toNat ^^^ (t[k]).toNat : Nat) : Int) := u8_xor_nat _ _ (s[k]).toNat_lt (t[k]).toNat_lt
      go_wp2
      go_region_law (refine step_append_lies _ rfl (.tmp 19) (.tmp 27) 25 rfl w.heap.size 5 i0 (.int .u8 0) 1 1 Try.underlying25 hi hz0 hz1 hz2 rfl (by decide) u5 k _ rfl (hO.out.alloc _) ⟨wr.heap.size, 0, none⟩ 1 1 [.int .u8 (((s[k]).toNat ^^^ (t[k]).toNat : Nat) : Int)] rfl rfl (cell_one_new _ _ _) (by simp [Value.oneCell']) (by omega) (by unfold maxLen; omega) (by omega) (by simp; omega) _ rfl ?_; intro g cap w1 hown1 hgrow1 hat1 hlt1)
      all_goals
        have hB1 := Lib.hid (below_append hBB.out hsz hO.out hgrow1)
        have hO1 := Lib.hid hown1
        clear hown1 hgrow1 hat1
        go_wp2
        go_roundw
        case rel => exact ⟨k + 1, by omega, by omega, by go_num, by rw [withL_snoc s t k hl1 hl2]; exact hO1.out, hB1.out⟩
        case measure => simp [intOf]; omega
    · have hO := Lib.hid hown
      have hBB := Lib.hid hB
      have hconv := run_row_str hown
      have hfin : withL (s.data.toList.take k) (t.data.toList.take k) = withL s.data.toList t.data.toList := withL_all s t k hk hk2 (by omega)
      rw [hfin] at hconv
      clear hown hB hfin
      by_cases h1 : k < s.size
      · have h2 : decide ((k : Int) < (t.size : Int)) = false := by simp; omega
        go_wp2
        go_ret
        exact ⟨rfl, hBB.out⟩
      · go_wp2
        go_ret
        exact ⟨rfl, hBB.out⟩
end Go.Proofs.Ytmaaljfcnnlnpaa
