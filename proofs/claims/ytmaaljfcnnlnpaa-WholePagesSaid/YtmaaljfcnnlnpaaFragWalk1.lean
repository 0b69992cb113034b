/-
  The library's slices.Chunk at bytes: its iterator's contract.
-/
import Derived.Test.YtmaaljfcnnlnpaaBase
import Derived.Test.YtmaaljfcnnlnpaaFragPure
import Derived.RangeFuncBox
import Derived.RangeFuncLeaves
import Derived.Shelf.Abstract
import Derived.Shelf.RegionOpen
import Derived.OwnWalkIn
import Derived.TacticsInMore
import Derived.LoopNIn
import Derived.LoopIn
import Derived.Maps.AppendAt
import Derived.BigRegionIn
namespace Go.Proofs.Ytmaaljfcnnlnpaa
open Go.RowKit Go.Shelf

attribute [local go_sem] Oper.semAt_some

/-- All blocks below n₁ but one are as they were. -/
def KX (n₁ ob : Nat) (W W' : World) : Prop := W.heap.size ≤ W'.heap.size ∧ ∀ k, k < n₁ → k ≠ ob → W'.heap[k]? = W.heap[k]?
theorem KX.refl (n₁ ob : Nat) (W : World) : KX n₁ ob W W := ⟨Nat.le_refl _, fun _ _ _ => rfl⟩
theorem KX.trans {n₁ ob : Nat} {A B C : World} (h : KX n₁ ob A B) (k : KX n₁ ob B C) : KX n₁ ob A C :=
  ⟨Nat.le_trans h.1 k.1, fun i h1 h2 => (k.2 i h1 h2).trans (h.2 i h1 h2)⟩
theorem KX.cell {n₁ ob : Nat} {W W' : World} (h : KX n₁ ob W W') {p : Addr} (h1 : p.block < n₁) (h2 : p.block ≠ ob) : W'.cell? p = W.cell? p :=
  World.cell?_of_block (h.2 _ h1 h2)
theorem KX.putObj {n₁ ob : Nat} (W : World) (l : Nat) (o' : Obj) (hl : n₁ ≤ l) : KX n₁ ob W (W.putObj l o') := by
  refine ⟨by simp, fun k h1 _ => World.putObj_heap_other (by omega)⟩

set_option maxRecDepth 100000 in
set_option maxHeartbeats 2000000 in
/-- slices.Chunk: the slice and the size are boxed; the function value captures the boxes. -/
theorem chunk_in (n : Nat) (a : Option Addr) (len cap : Nat) (w : World) :
    CallsIn Fence.wide n Try.prog 83 #[.slice a len cap, .int .i64 49] w fun e w' => e = .returned (.func (.func 101) #[] #[.pointer (some ⟨w.heap.size, 0, none⟩), .pointer (some ⟨w.heap.size + 1, 0, none⟩)]) ∧ w' = (w.alloc (.cells #[.slice a len cap] 25)).alloc (.cells #[.int .i64 49] 3) := by
  refine callsIn_of_wp Try.func83 rfl trivial ?_ rfl
  simp only [Try.ntmps83, List.size_toArray, List.length_cons, List.length_nil, Nat.reduceAdd, Nat.reduceSub, Array.replicate_succ, Array.replicate_zero, List.push_toArray, List.append_toArray, List.nil_append, List.cons_append]
  gi_wp2
  go_ret
  exact ⟨rfl, rfl⟩

set_option maxRecDepth 100000 in
set_option maxHeartbeats 2000000 in
theorem chunk1_in (n : Nat) (hn : 1 ≤ n) (l B1 B2 n₁ ob b len cap : Nat) (hlen : len ≤ cap) (hl1 : len ≤ 1000000)
    (hB1 : B1 < n₁) (hB1' : B1 ≠ ob) (hB2 : B2 < n₁) (hB2' : B2 ≠ ob) (J Jx : List Nat → World → Prop)
    (hY : ∀ pre x W, J pre W → pre.length < cnt len → YieldAt Fence.wide (n - 1) Try.prog l #[.slice (some ⟨b, 49 * x, none⟩) (plen len x) (plen len x)] W fun e W' =>
      (e = .returned (.bool true) ∧ J (pre ++ [x]) W' ∧ KX n₁ ob W W') ∨ (e = .returned (.bool false) ∧ Jx (pre ++ [x]) W'))
    (W : World) (hJ : AbidesFrom W.heap.size J) (hc1 : W.cell? ⟨B1, 0, none⟩ = some (.slice (some ⟨b, 0, none⟩) len cap)) (hc2 : W.cell? ⟨B2, 0, none⟩ = some (.int .i64 49)) (h0 : J [] W) :
    CallsIn Fence.wide n Try.prog 101 #[.func (.yield l) #[] #[], .pointer (some ⟨B1, 0, none⟩), .pointer (some ⟨B2, 0, none⟩)] W fun e W' => (∃ v, e = .returned v) ∧
      ((∃ ys, ys = List.range (cnt len) ∧ J ys W') ∨ (∃ pre, True ∧ Jx pre W')) := by
  refine callsIn_of_wp Try.func101 rfl trivial ?_ rfl
  simp only [Try.ntmps101, List.size_toArray, List.length_cons, List.length_nil, Nat.reduceAdd, Nat.reduceSub, Array.replicate_succ, Array.replicate_zero, List.push_toArray, List.append_toArray, List.nil_append, List.cons_append]
  gi_wp2
  have hmx : Try.prog.follows .mixedOrders = true := by kernel_rfl
  gi_loopw [4, 5, 6, 7, 8, 9, 10, 11, 12, 13, 14, 15, 16, 17, 18, 19, 20, 21, 22, 23, 24, 25, 26, 27, 28, 29, 30] (fun a4 _ _ _ _ _ _ _ _ _ _ _ _ _ _ _ _ _ _ _ _ _ _ _ _ _ _ wr => ∃ k m : Nat, k ≤ cnt len ∧ m = 49 * k ∧ a4 = .int .i64 m ∧ J (List.range k) wr ∧ KX n₁ ob W wr) (fun a4 _ _ _ _ _ _ _ _ _ _ _ _ _ _ _ _ _ _ _ _ _ _ _ _ _ _ _ => cnt len - (intOf a4).toNat / 49)
  case atStart => exact ⟨0, 0, Nat.zero_le _, rfl, rfl, h0, KX.refl _ _ _⟩
  case round =>
    obtain ⟨k, m, hk, hm, rfl, hJs, hnx⟩ := hrel
    have hd1 : wr.cell? ⟨B1, 0, none⟩ = some (.slice (some ⟨b, 0, none⟩) len cap) := (hnx.cell hB1 hB1').trans hc1
    have hd2 : wr.cell? ⟨B2, 0, none⟩ = some (.int .i64 49) := (hnx.cell hB2 hB2').trans hc2
    have HN := Lib.hid hnx
    have HM := Lib.hid hm
    clear hc1 hc2 hnx
    by_cases hlt : m < len
    · have hkc : k < cnt len := by unfold cnt; omega
      obtain ⟨fn, tmps, assign, body, hy, hR⟩ := hY _ k wr.drew (hJ _ wr wr.drew none hJs ⟨rfl, rfl, rfl, Nat.le_refl _, fun _ _ _ => rfl⟩ (fun r e => by cases e)) (by rw [List.length_range]; exact hkc)
      by_cases hfull : m + 49 ≤ len
      · have hpl : plen len k = 49 := by unfold plen; omega
        rw [hpl, ← hm] at hy
        have HR := Lib.hid hR
        have q3 : ¬ cap = m := by omega
        have q4 : (49 : Int) ≤ ((len - m : Nat) : Int) := by omega
        clear hJs h0 hY hpl hm hR
        gi_wp2
        gi_big_region
        gi_wp2
        refine HR.out.mono ?_
        rintro e W3 (⟨rfl, hJ3, hk3⟩ | ⟨rfl, hJx3⟩)
        · have hd3 : W3.cell? ⟨B2, 0, none⟩ = some (.int .i64 49) := (hk3.cell (p := ⟨B2, 0, none⟩) hB2 hB2').trans hd2
          gi_wp2
          go_roundw
          case rel => exact ⟨k + 1, m + 49, by omega, by rw [HM.out]; omega, by go_num, by rw [List.range_succ]; exact hJ3, HN.out.trans (KX.trans ⟨Nat.le_refl _, fun _ _ _ => rfl⟩ hk3)⟩
          case measure => simp [intOf]; have := HM.out; omega
        · gi_wp2
          refine bodyPost_ret (results_none rfl _ _ _) rfl ?_
          exact ⟨⟨_, rfl⟩, .inr ⟨_, trivial, hJx3⟩⟩
      · have hpl : plen len k = len - m := by unfold plen; omega
        rw [hpl, ← hm] at hy
        have HR := Lib.hid hR
        have q3 : ¬ cap = m := by omega
        have q4 : ¬ (49 : Int) ≤ ((len - m : Nat) : Int) := by omega
        have q5 : ((len - m : Nat) : Int) = (len : Int) - (m : Int) := by omega
        clear hJs h0 hY hpl hm hR
        gi_wp2
        gi_big_region
        gi_wp2
        refine HR.out.mono ?_
        rintro e W3 (⟨rfl, hJ3, hk3⟩ | ⟨rfl, hJx3⟩)
        · have hd3 : W3.cell? ⟨B2, 0, none⟩ = some (.int .i64 49) := (hk3.cell (p := ⟨B2, 0, none⟩) hB2 hB2').trans hd2
          gi_wp2
          go_roundw
          case rel => exact ⟨k + 1, m + 49, by omega, by rw [HM.out]; omega, by go_num, by rw [List.range_succ]; exact hJ3, HN.out.trans (KX.trans ⟨Nat.le_refl _, fun _ _ _ => rfl⟩ hk3)⟩
          case measure => simp [intOf]; have := HM.out; omega
        · gi_wp2
          refine bodyPost_ret (results_none rfl _ _ _) rfl ?_
          exact ⟨⟨_, rfl⟩, .inr ⟨_, trivial, hJx3⟩⟩
    · obtain rfl : k = cnt len := by unfold cnt at *; omega
      gi_wp2
      go_end0
      exact ⟨⟨_, rfl⟩, .inl ⟨_, rfl, hJs⟩⟩

/-- slices.Chunk hands back a value that tells the pieces' slices, one behind the other. -/
theorem chunk_stops (n : Nat) (hn : 1 ≤ n) (B1 B2 n₁ ob b len cap : Nat) (hlen : len ≤ cap) (hl1 : len ≤ 1000000) (w : World) (hn₁ : n₁ ≤ w.heap.size)
    (hB1 : B1 < n₁) (hB1' : B1 ≠ ob) (hB2 : B2 < n₁) (hB2' : B2 ≠ ob)
    (hc1 : w.cell? ⟨B1, 0, none⟩ = some (.slice (some ⟨b, 0, none⟩) len cap)) (hc2 : w.cell? ⟨B2, 0, none⟩ = some (.int .i64 49)) :
    SeqStopsK Fence.wide n Try.prog 101 #[.pointer (some ⟨B1, 0, none⟩), .pointer (some ⟨B2, 0, none⟩)] (fun x : Nat => #[.slice (some ⟨b, 49 * x, none⟩) (plen len x) (plen len x)]) (KX n₁ ob) (fun ys => ys = List.range (cnt len)) (fun _ => True) (cnt len) w := fun l J Jx W hW hJ hJx hY h0 =>
  chunk1_in n hn l B1 B2 n₁ ob b len cap hlen hl1 hB1 hB1' hB2 hB2' J Jx hY W hJ ((hW.cell (p := ⟨B1, 0, none⟩) (by show B1 < _; omega)).trans hc1) ((hW.cell (p := ⟨B2, 0, none⟩) (by show B2 < _; omega)).trans hc2) h0
end Go.Proofs.Ytmaaljfcnnlnpaa
