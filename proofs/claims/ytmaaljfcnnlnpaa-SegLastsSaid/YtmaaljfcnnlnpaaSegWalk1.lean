/-
  The walks of a log's small functions, and a scan in memory.
-/
import Derived.Test.YtmaaljfcnnlnpaaDiskWalk9
import Derived.Test.YtmaaljfcnnlnpaaJoin3
import Derived.Test.YtmaaljfcnnlnpaaPageTheory
import Derived.Test.YtmaaljfcnnlnpaaWs
import Derived.Test.YtmaaljfcnnlnpaaSegPure
import Derived.Deep.AppendLies
namespace Go.Proofs.Ytmaaljfcnnlnpaa
open Go.RowKit

theorem mod16_beq (i : Nat) : (((i : Int) % 16) == 0) = (i % 16 == 0) := by
  rw [Bool.eq_iff_iff, beq_iff_eq, beq_iff_eq]
  omega

set_option maxHeartbeats 400000 in
theorem heads_any (i : Nat) (hi : i ≤ 1000000) (W : World) : Calls Try.prog 96 #[.int .i64 i] W fun r w' => r = .returned (.bool (i % 16 == 0)) ∧ W = w' := by
  have hb := Lib.hid (mod16_beq i)
  go_enter Try.func96, Try.ntmps96
  go_wp2_with fail
  go_ret
  exact ⟨by rw [hb.out]; rfl, rfl⟩

theorem heads_yes (i : Nat) (hi : i ≤ 1000000) (h : i % 16 = 0) (W : World) : Calls Try.prog 96 #[.int .i64 i] W fun r w' => r = .returned (.bool true) ∧ W = w' := by
  have := heads_any i hi W
  rwa [show (i % 16 == 0) = true by simp [h]] at this
theorem heads_no (i : Nat) (hi : i ≤ 1000000) (h : i % 16 ≠ 0) (W : World) : Calls Try.prog 96 #[.int .i64 i] W fun r w' => r = .returned (.bool false) ∧ W = w' := by
  have := heads_any i hi W
  rwa [show (i % 16 == 0) = false by simp [h]] at this

theorem four_headB (i : Nat) : four (i / 16) = headB i := rfl

set_option maxHeartbeats 400000 in
theorem segnum_any (i : Nat) (hi : i ≤ 1000000) (W : World) : Calls Try.prog 105 #[.int .i64 i] W fun r w' => r = .returned (.string ⟨(headB i).toArray⟩) ∧ Below W.heap.size W w' := by
  have F := Lib.hid (fun W => four_any (i / 16) (by omega) W)
  have hc := Lib.hid (show (i : Int) / 16 = ((i / 16 : Nat) : Int) by omega)
  go_enter Try.func105, Try.ntmps105
  go_wp2_with fail
  rw [hc.out]
  refine (F.out _).mono ?_
  rintro e w1 ⟨rfl, hb⟩
  go_wp2_with fail
  go_ret
  exact ⟨rfl, hb⟩

/-- The records' cells. -/
def recCells (l : List (Nat × List UInt8)) : List Value := l.flatMap fun x => [Value.int .i64 (x.1 : Int), .string ⟨x.2.toArray⟩]

/-- A scan in memory: its struct in block b, its row of records in rv; the greatest epoch m. -/
structure ScAt (W : World) (b : Nat) (s : Sc) (m : Nat) (rv : Value) : Prop where
  jn : JnAt W b 0 s.jn
  c3 : W.cell? ⟨b, 3, none⟩ = some rv
  c4 : W.cell? ⟨b, 4, none⟩ = some (.int .i64 (s.at_ : Int))
  c5 : W.cell? ⟨b, 5, none⟩ = some (.int .i64 (s.next : Int))
  c6 : W.cell? ⟨b, 6, none⟩ = some (.int .u32 (s.ep : Int))
  c7 : W.cell? ⟨b, 7, none⟩ = some (.int .u32 (m : Int))
  c8 : W.cell? ⟨b, 8, none⟩ = some (.bool s.br)
  fz : ∀ i, W.frozen? ⟨b, i, none⟩ = false
  row : W.ownsRow (b + 1) 160 2 rv s.recs.length (recCells s.recs)
  lt : b < W.heap.size
  le : s.jn.rc.length ≤ 4096

theorem ScAt.below {W W' : World} {b : Nat} {s : Sc} {m : Nat} {rv : Value} (h : ScAt W b s m rv) (hb : Below W.heap.size W W') : ScAt W' b s m rv := by
  have c : ∀ i, W'.cell? ⟨b, i, none⟩ = W.cell? ⟨b, i, none⟩ := fun i => hb.cell (p := ⟨b, i, none⟩) h.lt
  exact ⟨h.jn.below hb h.lt, (c _).trans h.c3, (c _).trans h.c4, (c _).trans h.c5, (c _).trans h.c6, (c _).trans h.c7, (c _).trans h.c8, fun i => (hb.frozen (p := ⟨b, i, none⟩) h.lt).trans (h.fz i),
    ownsRow_of_block h.row (fun _ hg => hb.block _ (ownsRow_ge h.row hg).2), Nat.lt_of_lt_of_le h.lt hb.size, h.le⟩

/-- One cell of the scan's struct written. -/
theorem ScAt.cellSet {W : World} {b : Nat} {s : Sc} {m : Nat} {rv : Value} (h : ScAt W b s m rv) (j : Nat) (u : Value) :
    (∀ i, i ≠ j → (W.setCell ⟨b, j, none⟩ u).cell? ⟨b, i, none⟩ = W.cell? ⟨b, i, none⟩) ∧ (∀ i, (W.setCell ⟨b, j, none⟩ u).frozen? ⟨b, i, none⟩ = false) ∧
    (W.setCell ⟨b, j, none⟩ u).ownsRow (b + 1) 160 2 rv s.recs.length (recCells s.recs) ∧ b < (W.setCell ⟨b, j, none⟩ u).heap.size ∧ Below b W (W.setCell ⟨b, j, none⟩ u) := by
  have hb : ∀ k, k ≠ b → (W.setCell ⟨b, j, none⟩ u).heap[k]? = W.heap[k]? := fun k hk => Below.heap_setCell W ⟨b, j, none⟩ u k hk
  exact ⟨fun i hi => World.cell?_setCell_other _ _ _ _ (fun e => hi (by injection e with _ e2; exact e2.symm)), fun i => by rw [World.frozen?_setCell]; exact h.fz i,
    ownsRow_of_block h.row (fun g hg => hb g (by have := (ownsRow_ge h.row hg).1; omega)), by rw [setCell_size]; exact h.lt, rfl, rfl, rfl, by rw [setCell_size]; exact Nat.le_refl _, fun k hk => hb k (by omega)⟩

section
variable {W : World} {b : Nat} {s : Sc} {m : Nat} {rv : Value}
theorem ScAt.jn' {W' : World} (h : ScAt W b s m rv) (c : ∀ i, i < 3 → W'.cell? ⟨b, i, none⟩ = W.cell? ⟨b, i, none⟩) : JnAt W' b 0 s.jn :=
  ⟨(c 0 (by decide)).trans h.jn.c0, (c 1 (by decide)).trans h.jn.c1, (c 2 (by decide)).trans h.jn.c2⟩
theorem ScAt.setAt (h : ScAt W b s m rv) (x : Nat) : ScAt (W.setCell ⟨b, 4, none⟩ (.int .i64 (x : Int))) b { s with at_ := x } m rv ∧ Below b W (W.setCell ⟨b, 4, none⟩ (.int .i64 (x : Int))) := by
  obtain ⟨k1, k2, k3, k4, k5⟩ := h.cellSet 4 (.int .i64 (x : Int))
  exact ⟨⟨h.jn' (fun i hi => k1 i (by omega)), (k1 3 (by decide)).trans h.c3, World.cell?_setCell_same _ _ _ h.c4, (k1 5 (by decide)).trans h.c5, (k1 6 (by decide)).trans h.c6, (k1 7 (by decide)).trans h.c7, (k1 8 (by decide)).trans h.c8, k2, k3, k4, h.le⟩, k5⟩
theorem ScAt.setNext (h : ScAt W b s m rv) (x : Nat) : ScAt (W.setCell ⟨b, 5, none⟩ (.int .i64 (x : Int))) b { s with next := x } m rv ∧ Below b W (W.setCell ⟨b, 5, none⟩ (.int .i64 (x : Int))) := by
  obtain ⟨k1, k2, k3, k4, k5⟩ := h.cellSet 5 (.int .i64 (x : Int))
  exact ⟨⟨h.jn' (fun i hi => k1 i (by omega)), (k1 3 (by decide)).trans h.c3, (k1 4 (by decide)).trans h.c4, World.cell?_setCell_same _ _ _ h.c5, (k1 6 (by decide)).trans h.c6, (k1 7 (by decide)).trans h.c7, (k1 8 (by decide)).trans h.c8, k2, k3, k4, h.le⟩, k5⟩
theorem ScAt.setEp (h : ScAt W b s m rv) (x : Nat) : ScAt (W.setCell ⟨b, 6, none⟩ (.int .u32 (x : Int))) b { s with ep := x } m rv ∧ Below b W (W.setCell ⟨b, 6, none⟩ (.int .u32 (x : Int))) := by
  obtain ⟨k1, k2, k3, k4, k5⟩ := h.cellSet 6 (.int .u32 (x : Int))
  exact ⟨⟨h.jn' (fun i hi => k1 i (by omega)), (k1 3 (by decide)).trans h.c3, (k1 4 (by decide)).trans h.c4, (k1 5 (by decide)).trans h.c5, World.cell?_setCell_same _ _ _ h.c6, (k1 7 (by decide)).trans h.c7, (k1 8 (by decide)).trans h.c8, k2, k3, k4, h.le⟩, k5⟩
theorem ScAt.setMost (h : ScAt W b s m rv) (x : Nat) : ScAt (W.setCell ⟨b, 7, none⟩ (.int .u32 (x : Int))) b s x rv ∧ Below b W (W.setCell ⟨b, 7, none⟩ (.int .u32 (x : Int))) := by
  obtain ⟨k1, k2, k3, k4, k5⟩ := h.cellSet 7 (.int .u32 (x : Int))
  exact ⟨⟨h.jn' (fun i hi => k1 i (by omega)), (k1 3 (by decide)).trans h.c3, (k1 4 (by decide)).trans h.c4, (k1 5 (by decide)).trans h.c5, (k1 6 (by decide)).trans h.c6, World.cell?_setCell_same _ _ _ h.c7, (k1 8 (by decide)).trans h.c8, k2, k3, k4, h.le⟩, k5⟩
theorem ScAt.setBr (h : ScAt W b s m rv) (x : Bool) : ScAt (W.setCell ⟨b, 8, none⟩ (.bool x)) b { s with br := x } m rv ∧ Below b W (W.setCell ⟨b, 8, none⟩ (.bool x)) := by
  obtain ⟨k1, k2, k3, k4, k5⟩ := h.cellSet 8 (.bool x)
  exact ⟨⟨h.jn' (fun i hi => k1 i (by omega)), (k1 3 (by decide)).trans h.c3, (k1 4 (by decide)).trans h.c4, (k1 5 (by decide)).trans h.c5, (k1 6 (by decide)).trans h.c6, (k1 7 (by decide)).trans h.c7, World.cell?_setCell_same _ _ _ h.c8, k2, k3, k4, h.le⟩, k5⟩
theorem ScAt.drew (h : ScAt W b s m rv) : ScAt W.drew b s m rv := h.below (Below.refl _ _).drew
/-- A joiner turned. -/
theorem ScAt.took {W' : World} (h : ScAt W b s m rv) {j : Jn} (hj : JnAt W' b 0 j) (ht : Tk W W' b 0) (hl : j.rc.length ≤ 4096) : ScAt W' b { s with jn := j } m rv ∧ Below b W W' :=
  ⟨⟨hj, (ht.cell 3 (by omega)).trans h.c3, (ht.cell 4 (by omega)).trans h.c4, (ht.cell 5 (by omega)).trans h.c5, (ht.cell 6 (by omega)).trans h.c6, (ht.cell 7 (by omega)).trans h.c7, (ht.cell 8 (by omega)).trans h.c8,
    fun i => (ht.frozen i).trans (h.fz i), ownsRow_of_block h.row (fun g hg => by have := ownsRow_ge h.row hg; exact ht.block g this.2 (by omega)), Nat.lt_of_lt_of_le h.lt ht.size, hl⟩, ht.below (Nat.le_refl _) (Nat.le_of_lt h.lt)⟩
end

theorem recCells_snoc (l : List (Nat × List UInt8)) (x : Nat × List UInt8) : recCells (l ++ [x]) = recCells l ++ [Value.int .i64 (x.1 : Int), .string ⟨x.2.toArray⟩] := by simp [recCells]

/-- A record appended, laid into the struct. -/
theorem ScAt.appended {W X w9 : World} {b : Nat} {s : Sc} {m : Nat} {rv : Value} {g2 cap n : Nat} (h : ScAt W b s m rv) (hX : Below W.heap.size W X) (hg : X.grownBy w9 rv.ownBlock) (l : List (Nat × List UInt8))
    (ho : w9.ownsRow (b + 1) 160 2 (.slice (some ⟨g2, 0, none⟩) n cap) l.length (recCells l)) :
    ScAt (w9.setCell ⟨b, 3, none⟩ (.slice (some ⟨g2, 0, none⟩) n cap)) b { s with recs := l } m (.slice (some ⟨g2, 0, none⟩) n cap) ∧ Below b W (w9.setCell ⟨b, 3, none⟩ (.slice (some ⟨g2, 0, none⟩) n cap)) := by
  have lt := h.lt
  have k : ∀ i, i < W.heap.size → rv.ownBlock ≠ some i → w9.heap[i]? = W.heap[i]? := fun i hb hne => (hg.block i (Nat.lt_of_lt_of_le hb hX.size) (fun e => hne e.symm)).trans (hX.block i hb)
  have nd : ∀ i, i ≤ b → rv.ownBlock ≠ some i := fun i hb e => by have := (ownsRow_ge h.row e).1; omega
  have s' : ∀ i, i ≠ b → (w9.setCell ⟨b, 3, none⟩ (.slice (some ⟨g2, 0, none⟩) n cap)).heap[i]? = w9.heap[i]? := fun i hb => Below.heap_setCell w9 ⟨b, 3, none⟩ _ i hb
  have cd : ∀ i, w9.cell? ⟨b, i, none⟩ = W.cell? ⟨b, i, none⟩ := fun i => World.cell?_of_block (a := ⟨b, i, none⟩) (k b lt (nd b (Nat.le_refl _)))
  have fd : ∀ i, w9.frozen? ⟨b, i, none⟩ = W.frozen? ⟨b, i, none⟩ := fun i => World.frozen?_of_block (a := ⟨b, i, none⟩) (k b lt (nd b (Nat.le_refl _)))
  have c : ∀ i, i ≠ 3 → (w9.setCell ⟨b, 3, none⟩ (.slice (some ⟨g2, 0, none⟩) n cap)).cell? ⟨b, i, none⟩ = W.cell? ⟨b, i, none⟩ := fun i hi =>
    (World.cell?_setCell_other _ _ _ _ (fun e => hi (by injection e with _ e2; exact e2.symm))).trans (cd i)
  have hsz : W.heap.size ≤ w9.heap.size := Nat.le_trans hX.size hg.size
  exact ⟨⟨h.jn' (fun i hi => c i (by omega)), World.cell?_setCell_same _ _ _ ((cd 3).trans h.c3), (c 4 (by decide)).trans h.c4, (c 5 (by decide)).trans h.c5, (c 6 (by decide)).trans h.c6, (c 7 (by decide)).trans h.c7, (c 8 (by decide)).trans h.c8,
    fun i => by rw [World.frozen?_setCell]; exact (fd i).trans (h.fz i), ownsRow_of_block ho (fun g hgg => s' g (Nat.ne_of_gt (Nat.lt_of_lt_of_le (Nat.lt_succ_self b) (ownsRow_ge ho hgg).1))), by rw [setCell_size]; omega, h.le⟩,
    hg.os.trans hX.os, hg.tape.trans hX.tape, hg.output.trans hX.output, by rw [setCell_size]; exact hsz, fun i hi => (s' i (by omega)).trans (k i (by omega) (nd i (by omega)))⟩

theorem info160 : (Try.prog.info? 160).map (fun i => (i.zero, i.size, i.bytes)) = some (some (.agg #[.int .i64 0, .string ⟨#[]⟩]), 2, 24) := by kernel_rfl
end Go.Proofs.Ytmaaljfcnnlnpaa
