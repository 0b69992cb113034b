/-
  What the calls on the document's disk lean on: two structs of the call's own, and their loads and stores.
-/
import Derived.Test.YtmaaljfcnnlnpaaRefDisk2
namespace Go.Proofs.Ytmaaljfcnnlnpaa
open Go.RowKit

/-- Two structs of the call's own. -/
structure Bx (W X : World) (e1 e2 : Nat) (cs1 cs2 : List Value) : Prop where
  b1 : Box6 X e1 cs1
  b2 : Box6 X e2 cs2
  ne : e1 ≠ e2
  g1 : W.heap.size ≤ e1
  g2 : W.heap.size ≤ e2
  below : Below W.heap.size W X

section
variable {W X : World} {e1 e2 : Nat} {cs1 cs2 : List Value}
theorem Bx.step (h : Bx W X e1 e2 cs1 cs2) {Y : World} (hb : Below X.heap.size X Y) : Bx W Y e1 e2 cs1 cs2 :=
  ⟨h.b1.of_block (hb.block _ h.b1.lt) (Nat.lt_of_lt_of_le h.b1.lt hb.size), h.b2.of_block (hb.block _ h.b2.lt) (Nat.lt_of_lt_of_le h.b2.lt hb.size), h.ne, h.g1, h.g2, h.below.trans (hb.mono h.below.size)⟩
theorem Bx.set1 (h : Bx W X e1 e2 cs1 cs2) (vs : List Value) (hl : vs.length = 6) : Bx W (X.setCells e1 0 vs) e1 e2 vs cs2 :=
  ⟨h.b1.set vs hl, h.b2.of_block (setCells_block _ _ _ _ _ (Ne.symm h.ne)) (by rw [heap_size_setCells]; exact h.b2.lt), h.ne, h.g1, h.g2, set_below h.below _ h.g1 _ _⟩
theorem Bx.set2 (h : Bx W X e1 e2 cs1 cs2) (vs : List Value) (hl : vs.length = 6) : Bx W (X.setCells e2 0 vs) e1 e2 cs1 vs :=
  ⟨h.b1.of_block (setCells_block _ _ _ _ _ h.ne) (by rw [heap_size_setCells]; exact h.b1.lt), h.b2.set vs hl, h.ne, h.g1, h.g2, set_below h.below _ h.g2 _ _⟩
theorem Box6.cell (h : Box6 X e1 cs1) (j : Nat) (v : Value) (hv : cs1[j]? = some v) : X.cell? ⟨e1, j, none⟩ = some v := by
  have := h.range j v hv
  rwa [Nat.zero_add] at this
theorem Box6.fz (h : Box6 X e1 cs1) (j : Nat) (hj : j < 6) : X.frozen? ⟨e1, j, none⟩ = false := by
  have := (h.there j hj).2
  rwa [Nat.zero_add] at this
theorem Box6.one (h : Box6 X e1 cs1) (j : Nat) (hj : j < 6) (v : Value) : Box6 (X.setCell ⟨e1, j, none⟩ v) e1 (cs1.set j v) := by
  refine ⟨fun k u hu => ?_, fun k hk => ⟨?_, ?_⟩, by rw [setCell_size]; exact h.lt, by rw [List.length_set]; exact h.len⟩
  · rw [Nat.zero_add]
    by_cases e : k = j
    · subst e
      rw [List.getElem?_set_self (by rw [h.len]; exact hj)] at hu
      cases hu
      have hs := (h.there k hj).1
      rw [Nat.zero_add] at hs
      exact World.cell?_setCell_same' _ _ _ hs
    · rw [List.getElem?_set_ne (Ne.symm e)] at hu
      rw [World.cell?_setCell_other _ _ _ _ (fun e2 => e (by injection e2 with _ e3; exact e3.symm))]
      exact h.cell k u hu
  · have := World.isSome_setCells e1 [v] j X ⟨e1, 0 + k, none⟩ (h.there k hk).1
    exact this
  · have := (World.there_setCells h.there e1 j [v] k hk).2
    exact this
theorem Bx.one (h : Bx W X e1 e2 cs1 cs2) (j : Nat) (hj : j < 6) (v : Value) : Bx W (X.setCell ⟨e1, j, none⟩ v) e1 e2 (cs1.set j v) cs2 :=
  ⟨h.b1.one j hj v, h.b2.of_block (Below.heap_setCell X ⟨e1, j, none⟩ v e2 (Ne.symm h.ne)) (by rw [setCell_size]; exact h.b2.lt), h.ne, h.g1, h.g2, set_below h.below _ h.g1 j [v]⟩

theorem wpList_store102 {ops : Array Oper} {rest : List Oper} {op : Oper} {a : Act} {Q : Exit → Act → World → Prop} (hgd : op.guard = none) (x y : Operand) (ho : op.op = .store 102 x y) (vs : List Value)
    (hB : Box6 X e1 cs1) (hx : a.eval x = .pointer (some ⟨e1, 0, none⟩)) (hy : a.eval y = .agg vs.toArray) (h6 : vs.length = 6) (h1 : ∀ v ∈ vs, v.oneCell' = true) (h : wpList Try.prog ops Q rest (a.put op.dst undef) (X.setCells e1 0 vs)) : wpList Try.prog ops Q (op :: rest) a X :=
  wpList_store_mid hgd 102 x y ho e1 0 vs.toArray hx hy (by rw [List.size_toArray, h6]; exact hB.there) (by rw [info102, List.size_toArray, h6]) (all_oneCell_toArray h1) h
theorem wpList_load102 {ops : Array Oper} {rest : List Oper} {op : Oper} {a : Act} {Q : Exit → Act → World → Prop} (hgd : op.guard = none) (x : Operand) (ho : op.op = .load 102 x)
    (hB : Box6 X e1 cs1) (hx : a.eval x = .pointer (some ⟨e1, 0, none⟩)) (h : wpList Try.prog ops Q rest (a.put op.dst (.agg cs1.toArray)) X) : wpList Try.prog ops Q (op :: rest) a X :=
  wpList_load_mid hgd 102 x ho e1 0 hx cs1 _ hB.range Try.underlying102 rfl (by rw [info102, hB.len]) h
end

def zero6 : List Value := [.slice none 0 0, .slice none 0 0, .slice none 0 0, .slice none 0 0, .bool false, .int .i64 0]

theorem Bx.start (W : World) (cs : List Value) (h : cs.length = 6) : Bx W ((W.alloc (.cells cs.toArray 102)).alloc (.cells zero6.toArray 102)) W.heap.size (W.heap.size + 1) cs zero6 := by
  have hs : (W.alloc (.cells cs.toArray 102)).heap.size = W.heap.size + 1 := by simp
  have hb : Below (W.alloc (.cells cs.toArray 102)).heap.size (W.alloc (.cells cs.toArray 102)) ((W.alloc (.cells cs.toArray 102)).alloc (.cells zero6.toArray 102)) := (Below.refl _ _).alloc (Nat.le_refl _) _
  have k1 := Box6.new W cs h
  have k2 := Box6.new (W.alloc (.cells cs.toArray 102)) zero6 rfl
  rw [hs] at k2
  exact ⟨k1.of_block (hb.block _ k1.lt) (Nat.lt_of_lt_of_le k1.lt hb.size), k2, by omega, Nat.le_refl _, by omega, alloc2_below _ _ _⟩

def Rf.sync (r : Rf) : Rf × Nat := if r.down = true then (r, 7) else if r.fuse = 0 then (r, 6) else ({ r with sure := r.seen, at_ := [], what := [], fuse := fuseDn r.fuse }, 0)

/-- The blocks of four rows. -/
def rv4 (a b c d : Value) : List Nat := a.ownBlock.toList ++ b.ownBlock.toList ++ c.ownBlock.toList ++ d.ownBlock.toList
theorem rv4_mem {a b c d : Value} {k : Nat} : k ∈ rv4 a b c d ↔ a.ownBlock = some k ∨ b.ownBlock = some k ∨ c.ownBlock = some k ∨ d.ownBlock = some k := by
  simp [rv4, or_assoc]
theorem own_ge {g k n cap N : Nat} (e : (Value.slice (some ⟨g, 0, none⟩) n cap).ownBlock = some k) (h : N ≤ g) : N ≤ k := by
  have : g = k := Option.some.inj e
  omega

/-- What a call answers that gives a disk and an error. -/
def RfAns (W : World) (B : Nat) (a b c d : Value) (R : Rf × Nat) (e : Ending) (w' : World) : Prop :=
  ∃ a' b' c' d', e = .returned (.tuple #[rfV a' b' c' d' R.1, .int .i64 (R.2 : Nat)]) ∧ RfAt w' B a' b' c' d' R.1 ∧ Below W.heap.size W w' ∧ ∀ k ∈ rv4 a' b' c' d', k ∈ rv4 a b c d ∨ W.heap.size ≤ k
end Go.Proofs.Ytmaaljfcnnlnpaa
