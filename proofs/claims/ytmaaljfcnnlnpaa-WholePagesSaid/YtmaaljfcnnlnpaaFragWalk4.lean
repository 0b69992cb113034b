/-
  The walks of the document's own Cut, of Plain, and of the law's 'awake'.
-/
import Derived.Test.YtmaaljfcnnlnpaaFragWalk2
namespace Go.Proofs.Ytmaaljfcnnlnpaa
open Go.RowKit

theorem info42 : (Try.prog.info? 42).map (fun i => (i.zero, i.size, i.bytes)) = some (some (.agg #[.int .u32 0, .int .u32 0, .int .i64 0, .bool false, .bool false, .string ⟨#[]⟩]), 6, 40) := by kernel_rfl

theorem range_succ_map {α : Type} (f : Nat → α) (k : Nat) : (List.range (k + 1)).map f = (List.range k).map f ++ [f k] := by simp [List.range_succ]

theorem chunk_extract (s : ByteArray) (m k e : Nat) (hm : m = 49 * k) (he : e = min (m + 49) s.size) : s.extract m e = ⟨(chunk s.data.toList k).toArray⟩ := by
  rw [Lib.extract_eq]
  subst hm
  unfold chunk
  congr 2
  by_cases h : 49 * k + 49 ≤ s.size
  · rw [show e - 49 * k = 49 by omega]
  · rw [List.take_of_length_le (by simp; omega), List.take_of_length_le (by simp; omega)]

theorem below_append0 {B : Nat} {w wr w1 : World} {o : Obj} {e : TypeId} {size : Nat} {v : Value} {n : Nat} {xs : List Value} (hB : Below B w wr) (hs : B ≤ wr.heap.size)
    (hown : wr.ownsRow B e size v n xs) (hg : (wr.alloc o).grownBy w1 v.ownBlock) : Below B w w1 :=
  (hB.alloc hs o).grown hg (by rw [World.size_alloc]; omega) (fun k hk => (hown.lt k hk).1)

/-- A piece of a string. -/
theorem run_str_slice (s : ByteArray) (lo hi : Int) (h0 : 0 ≤ lo) (h1 : lo ≤ hi) (h2 : hi ≤ s.size) (W : World) :
    (Instr.slice 9 (.string s) (some (.int .i64 lo)) (some (.int .i64 hi)) none).run Try.prog W = .ok (.string (s.extract lo.toNat hi.toNat)) W := by
  have e1 : 0 ≤ hi ∧ hi ≤ (s.size : Int) := ⟨by omega, h2⟩
  have e2 : 0 ≤ lo ∧ lo ≤ ((hi.toNat : Nat) : Int) := ⟨h0, by omega⟩
  simp [Instr.slice, run_underlying Try.underlying9, Instr.sliceBounds, Instr.sliceBound, asIntOf, e1, e2]
  intro h; omega

set_option maxRecDepth 100000 in
set_option maxHeartbeats 1000000 in
theorem refcut_any (ep : Nat) (s : ByteArray) (h2 : s.size ≤ 4096) (w : World) :
    Calls Try.prog 38 #[.int .u32 ep, .string s] w fun e w' => ∃ v, e = .returned v ∧ w'.ownsRow w.heap.size 42 6 v (cnt s.size) (pgCells (pieces ep s.data.toList)) ∧ Below w.heap.size w w' := by
  have hsl : s.data.toList.length = s.size := by simp
  obtain ⟨i0, hi, hz0, hz1, hz2⟩ := info_parts info42
  have HSL := Lib.hid hsl
  have hB0 := Below.refl w.heap.size w
  clear hsl
  go_enter Try.func38, Try.ntmps38
  go_wp2
  go_loopw [5, 6, 7, 8, 9, 10, 11, 12, 13, 14, 15, 16, 17, 18, 19, 20, 21, 22, 23, 24, 25, 26, 27, 28, 29, 30, 31, 32, 33, 34, 35, 36] (fun a5 a6 _ _ _ _ _ _ _ _ _ _ _ _ _ _ _ _ _ _ _ _ _ _ _ _ _ _ _ _ _ _ wr => ∃ k m : Nat, k ≤ cnt s.size ∧ m = 49 * k ∧ a6 = .int .i64 m ∧ wr.ownsRow w.heap.size 42 6 a5 k (pgCells ((List.range k).map (piece ep s.data.toList))) ∧ Below w.heap.size w wr) (fun _ a6 _ _ _ _ _ _ _ _ _ _ _ _ _ _ _ _ _ _ _ _ _ _ _ _ _ _ _ _ _ _ _ => cnt s.size - (intOf a6).toNat / 49)
  case atStart => exact ⟨0, 0, Nat.zero_le _, rfl, rfl, World.ownsRow_nil _ _ _ _, hB0⟩
  case round =>
    clear hB0
    obtain ⟨k, m, hk, hm, rfl, hown, hB⟩ := hrel
    have hcl : cnt s.size ≤ 84 := by unfold cnt; omega
    have HM := Lib.hid hm
    have HO := Lib.hid hown
    have HB := Lib.hid hB
    have hsz := hB.size
    by_cases hlt : m < s.size
    · have hkc : k < cnt s.size := by unfold cnt; omega
      obtain ⟨fi, hfi⟩ : ∃ fi : Bool, ((m : Int) == 0) = fi := ⟨_, rfl⟩
      have HF := Lib.hid (show fi = (k == 0) by rw [← hfi, Bool.eq_iff_iff, beq_iff_eq, beq_iff_eq]; omega)
      by_cases hfull : m + 49 ≤ s.size
      · obtain ⟨la, hla⟩ : ∃ la : Bool, ((m : Int) + 49 == (s.size : Int)) = la := ⟨_, rfl⟩
        have HL := Lib.hid (show la = (k + 1 == cnt s.size) by rw [← hla, Bool.eq_iff_iff, beq_iff_eq, beq_iff_eq]; unfold cnt; omega)
        have hex := chunk_extract s m k (m + 49) hm (by omega)
        have hpc := Lib.hid (show pgCells ((List.range (k + 1)).map (piece ep s.data.toList)) = pgCells ((List.range k).map (piece ep s.data.toList)) ++ [.int .u32 ep, .int .u32 0, .int .i64 2, .bool fi, .bool la, .string ⟨(chunk s.data.toList k).toArray⟩] by
          rw [range_succ_map, pgCells_snoc, HF.out, HL.out]; unfold piece Pg.cells; rw [HSL.out]; rfl)
        have hsli := fun W => run_str_slice s (m : Int) ((m : Int) + 49) (by omega) (by omega) (by omega) W
        rw [show ((m : Int)).toNat = m by omega, show ((m : Int) + 49).toNat = m + 49 by omega, hex] at hsli
        clear hown hB hm hex
        generalize (⟨(chunk s.data.toList k).toArray⟩ : ByteArray) = ch at *
        go_wp2_with (at_builtin; refine wpList_append_own _ rfl _ _ 39 rfl w.heap.size 42 i0 (.agg #[.int .u32 0, .int .u32 0, .int .i64 0, .bool false, .bool false, .string ⟨#[]⟩]) 6 40 Try.underlying39 hi hz0 hz1 hz2 rfl (by decide) _ _ _ rfl (HO.out.alloc _) ⟨wr.heap.size, 0, none⟩ 1 1 [.int .u32 ep, .int .u32 0, .int .i64 2, .bool fi, .bool la, .string ch] rfl rfl (World.news_of_block (World.alloc_heap_new wr _)) (by simp [Value.oneCell']) (by unfold maxLen; omega) (by omega) (by rw [World.size_alloc]; omega) ?_; intro v' w1 hown' hgrow _; have HG := Lib.hid (And.intro hown' hgrow); clear hown' hgrow)
        refine ⟨⟨k + 1, m + 49, by omega, by rw [HM.out]; omega, by go_num, by rw [hpc.out]; exact HG.out.1, below_append0 HB.out hsz HO.out (show (wr.alloc _).grownBy w1 u5.ownBlock from HG.out.2)⟩, by simp [intOf]; have := HM.out; omega⟩
      · have hla : k + 1 = cnt s.size := by unfold cnt; omega
        have hex := chunk_extract s m k s.size hm (by omega)
        have hpc := Lib.hid (show pgCells ((List.range (k + 1)).map (piece ep s.data.toList)) = pgCells ((List.range k).map (piece ep s.data.toList)) ++ [.int .u32 ep, .int .u32 0, .int .i64 2, .bool fi, .bool true, .string ⟨(chunk s.data.toList k).toArray⟩] by
          rw [range_succ_map, pgCells_snoc, HF.out]; unfold piece Pg.cells; rw [HSL.out, hla]; simp)
        have hsli := fun W => run_str_slice s (m : Int) (s.size : Int) (by omega) (by omega) (by omega) W
        rw [show ((m : Int)).toNat = m by omega, show ((s.size : Int)).toNat = s.size by omega, hex] at hsli
        clear hown hB hm hex hla
        generalize (⟨(chunk s.data.toList k).toArray⟩ : ByteArray) = ch at *
        go_wp2_with (at_builtin; refine wpList_append_own _ rfl _ _ 39 rfl w.heap.size 42 i0 (.agg #[.int .u32 0, .int .u32 0, .int .i64 0, .bool false, .bool false, .string ⟨#[]⟩]) 6 40 Try.underlying39 hi hz0 hz1 hz2 rfl (by decide) _ _ _ rfl (HO.out.alloc _) ⟨wr.heap.size, 0, none⟩ 1 1 [.int .u32 ep, .int .u32 0, .int .i64 2, .bool fi, .bool true, .string ch] rfl rfl (World.news_of_block (World.alloc_heap_new wr _)) (by simp [Value.oneCell']) (by unfold maxLen; omega) (by omega) (by rw [World.size_alloc]; omega) ?_; intro v' w1 hown' hgrow _; have HG := Lib.hid (And.intro hown' hgrow); clear hown' hgrow)
        refine ⟨⟨k + 1, m + 49, by omega, by rw [HM.out]; omega, by go_num, by rw [hpc.out]; exact HG.out.1, below_append0 HB.out hsz HO.out (show (wr.alloc _).grownBy w1 u5.ownBlock from HG.out.2)⟩, by simp [intOf]; have := HM.out; omega⟩
    · have hkk : k = cnt s.size := by unfold cnt at *; omega
      have HKK := Lib.hid hkk
      clear hown hB hm hkk
      go_wp2
      go_ret
      refine ⟨_, rfl, ?_, HB.out⟩
      have := HO.out
      rw [HKK.out] at this
      unfold pieces
      rw [HSL.out]
      exact this
end Go.Proofs.Ytmaaljfcnnlnpaa

namespace Go.Proofs.Ytmaaljfcnnlnpaa
open Go.RowKit

set_option maxRecDepth 100000 in
set_option maxHeartbeats 1000000 in
theorem plain_any (e n : Nat) (k : Int) (f l : Bool) (d : ByteArray) (w : World) :
    Calls Try.prog 39 #[.agg #[.int .u32 e, .int .u32 n, .int .i64 k, .bool f, .bool l, .string d]] w fun r w' => r = .returned (.agg #[.int .u32 e, .int .u32 n, .int .i64 k, .bool f, .bool l, .string d]) ∧ Below w.heap.size w w' := by
  go_enter Try.func39, Try.ntmps39
  go_wp2
  refine bodyPost_ret (v := .agg #[.int .u32 e, .int .u32 n, .int .i64 k, .bool f, .bool l, .string d]) (by simp [results, Try.results39, go_sem]) rfl ⟨rfl, ?_⟩
  exact ((Below.refl _ _).alloc (Nat.le_refl _) _).alloc (by simp) _

/-- The cell at place j of what a slice owns. -/
theorem own_cell {w : World} {base : Nat} {e : TypeId} {size : Nat} {g n cap : Nat} {xs : List Value} (h : w.ownsRow base e size (.slice (some ⟨g, 0, none⟩) n cap) n xs) (j : Nat) (u : Value) (hj : xs[j]? = some u) :
    w.cell? ⟨g, j, none⟩ = some u := by
  have := h.cells (g := g) rfl j u hj
  rw [addr_add, Nat.zero_add] at this
  exact this

def z50 : List UInt8 := List.replicate 50 0

set_option maxRecDepth 100000 in
set_option maxHeartbeats 1000000 in
theorem awake18 (w : World) : Calls Try.prog 36 #[] w fun e w' => e = .returned (.bool true) ∧ Below w.heap.size w w' := by
  have hmk : ∀ w : World, (Instr.makeSlice 25 (.int .i64 50) (.int .i64 50)).run Try.prog w = .ok (.slice (some ⟨w.heap.size, 0, none⟩) 50 50) (w.alloc (.cells (z50.map bv).toArray 5)) := fun _ => by kernel_rfl
  have hconv : (convert 25 9 (.slice (some ⟨w.heap.size, 0, none⟩) 50 50)).run Try.prog (w.alloc (.cells (z50.map bv).toArray 5)) = .ok (.string ⟨z50.toArray⟩) (w.alloc (.cells (z50.map bv).toArray 5)) := by
    refine run_bytes_str (bs := z50) (fun j hj => ?_) rfl
    rw [Nat.zero_add, World.cell?_alloc_new]
    simp [hj]
  have hB0 : Below w.heap.size w (w.alloc (.cells (z50.map bv).toArray 5)) := (Below.refl _ _).alloc (Nat.le_refl _) _
  have C := Lib.hid (fun W => cut_yes 1 ⟨z50.toArray⟩ (by decide) (by decide) W)
  have P := Lib.hid (fun W => pages_any 50 (by decide) W)
  go_enter Try.func36, Try.ntmps36
  go_wp2_with fail
  refine (C.out _).mono ?_
  rintro e w1 ⟨v, rfl, hrow, hb⟩
  have hb := hB0.trans (hb.mono hB0.size)
  have h2 : cnt (⟨z50.toArray⟩ : ByteArray).size = 2 := rfl
  rw [h2] at hrow
  obtain ⟨g, cap, rfl, hg1, hg2⟩ := hrow.form (by decide)
  have k1 := own_cell hrow 3 (.bool true) rfl
  have k2 := own_cell hrow 10 (.bool true) rfl
  clear hrow h2
  go_wp2_with fail
  refine (P.out _).mono ?_
  rintro e w2 ⟨rfl, rfl⟩
  go_wp2_with fail
  go_ret
  exact ⟨rfl, hb⟩
end Go.Proofs.Ytmaaljfcnnlnpaa
