/-
  A disk in memory.
-/
import Derived.Test.YtmaaljfcnnlnpaaPageWalk4
import Derived.Test.YtmaaljfcnnlnpaaIntMap
namespace Go.Proofs.Ytmaaljfcnnlnpaa
open Go.RowKit

/-- One more reading. -/
def Dk.read (D : Dk) (i : Int) : Dk := { D with reads := fun j => if j = i then wrap64 (D.reads i + 1) else D.reads j }

/-- The loose writes' cells. -/
def loCells (l : List Wr) : List Value := l.flatMap fun x => Value.int .i64 x.1 :: x.2.map bv

theorem loCells_snoc (l : List Wr) (x : Wr) : loCells (l ++ [x]) = loCells l ++ (Value.int .i64 x.1 :: x.2.map bv) := by
  simp [loCells]

theorem loCells_get : ∀ (l : List Wr) (_ : ∀ x ∈ l, x.2.length = 64) (k j : Nat) (hk : k < l.length), j < 65 → (loCells l)[k * 65 + j]? = (Value.int .i64 l[k].1 :: l[k].2.map bv)[j]?
  | [], _, k, j, hk, _ => by simp at hk
  | x :: l, h, 0, j, _, hj => by
    show ((Value.int .i64 x.1 :: x.2.map bv) ++ loCells l)[0 * 65 + j]? = _
    have := h x (.head _)
    rw [Nat.zero_mul, Nat.zero_add, List.getElem?_append_left (by simp; omega)]
    rfl
  | x :: l, h, k + 1, j, hk, hj => by
    show ((Value.int .i64 x.1 :: x.2.map bv) ++ loCells l)[(k + 1) * 65 + j]? = _
    have hx := h x (.head _)
    have hl : (Value.int .i64 x.1 :: x.2.map bv).length = 65 := by simp; omega
    rw [List.getElem?_append_right (by omega), hl, show (k + 1) * 65 + j - 65 = k * 65 + j by omega]
    exact loCells_get l (fun y hy => h y (.tail _ hy)) k j (by simpa using hk) hj

def SureAt (W : World) (m : Nat) (s : Int → List UInt8) : Prop := ∃ f, MapAt W m f ∧ ∀ i, (f i).getD (.agg (zero64.map bv).toArray) = .agg ((s i).map bv).toArray
def ReadsAt (W : World) (m : Nat) (r : Int → Int) : Prop := ∃ f, MapAt W m f ∧ ∀ i, (f i).getD (.int .i64 0) = .int .i64 (r i)

theorem SureAt.lt {W : World} {m : Nat} {s : Int → List UInt8} (h : SureAt W m s) : m < W.heap.size := h.elim fun _ h => h.1.lt
theorem ReadsAt.lt {W : World} {m : Nat} {s : Int → Int} (h : ReadsAt W m s) : m < W.heap.size := h.elim fun _ h => h.1.lt
theorem SureAt.of_block {W W' : World} {m : Nat} {s : Int → List UInt8} (h : SureAt W m s) (e : W'.heap[m]? = W.heap[m]?) : SureAt W' m s := h.elim fun f h => ⟨f, h.1.of_block e, h.2⟩
theorem ReadsAt.of_block {W W' : World} {m : Nat} {s : Int → Int} (h : ReadsAt W m s) (e : W'.heap[m]? = W.heap[m]?) : ReadsAt W' m s := h.elim fun f h => ⟨f, h.1.of_block e, h.2⟩

theorem ownsRow_of_block {W W' : World} {base : Nat} {e : TypeId} {size : Nat} {v : Value} {n : Nat} {xs : List Value} (h : W.ownsRow base e size v n xs) (hb : ∀ g, v.ownBlock = some g → W'.heap[g]? = W.heap[g]?) : W'.ownsRow base e size v n xs := by
  obtain ⟨h1, h2 | ⟨g, cap, cur, rfl, h3, h4, r⟩⟩ := h
  · exact ⟨h1, .inl h2⟩
  · exact ⟨h1, .inr ⟨g, cap, cur, rfl, h3, (hb g rfl).trans h4, r⟩⟩
theorem ownsRow_ge {W : World} {base : Nat} {e : TypeId} {size : Nat} {v : Value} {n : Nat} {xs : List Value} (h : W.ownsRow base e size v n xs) {g : Nat} (hg : v.ownBlock = some g) : base ≤ g ∧ g < W.heap.size := by
  obtain ⟨_, ⟨rfl, _⟩ | ⟨g', cap, cur, rfl, h3, h4, _⟩⟩ := h
  · cases hg
  · cases hg
    exact ⟨h3, (Array.getElem?_eq_some_iff.1 h4).1⟩

/-- A disk in memory: its struct in block d, its maps in m1 and m2, its row in v. -/
structure DkAt (W : World) (d m1 m2 : Nat) (v : Value) (D : Dk) : Prop where
  c0 : W.cell? ⟨d, 0, none⟩ = some (.int .i64 D.size)
  c1 : W.cell? ⟨d, 1, none⟩ = some (.map (some m1))
  c2 : W.cell? ⟨d, 2, none⟩ = some v
  c3 : W.cell? ⟨d, 3, none⟩ = some (.bool D.down)
  c4 : W.cell? ⟨d, 4, none⟩ = some (.int .i64 D.fuse)
  c5 : W.cell? ⟨d, 5, none⟩ = some (.map (some m2))
  fz : ∀ i, W.frozen? ⟨d, i, none⟩ = false
  sure : SureAt W m1 D.sure
  reads : ReadsAt W m2 D.reads
  row : W.ownsRow (d + 1) 145 65 v D.loose.length (loCells D.loose)
  o1 : m1 < m2
  o2 : m2 < d
  lt : d < W.heap.size
  ok : D.ok

/-- What a call of the disk's may turn. -/
structure DFr (W W' : World) (d m1 m2 : Nat) (v v' : Value) : Prop where
  os : W'.os = W.os
  tape : W'.tape = W.tape
  output : W'.output = W.output
  size : W.heap.size ≤ W'.heap.size
  block : ∀ k, k < W.heap.size → k ≠ d → k ≠ m1 → k ≠ m2 → v.ownBlock ≠ some k → W'.heap[k]? = W.heap[k]?
  own : ∀ k, v'.ownBlock = some k → v.ownBlock = some k ∨ W.heap.size ≤ k

theorem DFr.refl (W : World) (d m1 m2 : Nat) (v : Value) : DFr W W d m1 m2 v v := ⟨rfl, rfl, rfl, Nat.le_refl _, fun _ _ _ _ _ _ => rfl, fun _ h => .inl h⟩
theorem DFr.of_below {W W' : World} (h : Below W.heap.size W W') (d m1 m2 : Nat) (v : Value) : DFr W W' d m1 m2 v v :=
  ⟨h.os, h.tape, h.output, h.size, fun k hk _ _ _ _ => h.block k hk, fun _ h => .inl h⟩
theorem DFr.trans {W W1 W2 : World} {d m1 m2 : Nat} {v v1 v2 : Value} (h : DFr W W1 d m1 m2 v v1) (k : DFr W1 W2 d m1 m2 v1 v2) : DFr W W2 d m1 m2 v v2 := by
  refine ⟨k.os.trans h.os, k.tape.trans h.tape, k.output.trans h.output, Nat.le_trans h.size k.size, fun i hi a b c e => ?_, fun i hi => ?_⟩
  · refine (k.block i (Nat.lt_of_lt_of_le hi h.size) a b c (fun e2 => ?_)).trans (h.block i hi a b c e)
    rcases h.own i e2 with h1 | h1
    · exact e h1
    · omega
  · rcases k.own i hi with h1 | h1
    · exact h.own i h1
    · exact .inr (Nat.le_trans h.size h1)
theorem DFr.drew {W W' : World} {d m1 m2 : Nat} {v v' : Value} (h : DFr W W' d m1 m2 v v') : DFr W W'.drew d m1 m2 v v' := ⟨h.os, h.tape, h.output, h.size, h.block, h.own⟩

/-- The disk's blocks lie at or above its first map. -/
theorem DFr.below {W W' : World} {d m1 m2 : Nat} {v v' : Value} {D : Dk} (h : DFr W W' d m1 m2 v v') (hd : DkAt W d m1 m2 v D) {B : Nat} (hB : B ≤ m1) : Below B W W' :=
  ⟨h.os, h.tape, h.output, h.size, fun k hk => by
    have o1 := hd.o1
    have o2 := hd.o2
    have lt := hd.lt
    refine h.block k (by omega) (by omega) (by omega) (by omega) (fun e => ?_)
    have := (ownsRow_ge hd.row e).1
    omega⟩

/-- The disk stays where none of its blocks is turned. -/
theorem DkAt.of_blocks {W W' : World} {d m1 m2 : Nat} {v : Value} {D : Dk} (h : DkAt W d m1 m2 v D) (hs : W.heap.size ≤ W'.heap.size) (e1 : W'.heap[d]? = W.heap[d]?) (e2 : W'.heap[m1]? = W.heap[m1]?) (e3 : W'.heap[m2]? = W.heap[m2]?)
    (e4 : ∀ g, v.ownBlock = some g → W'.heap[g]? = W.heap[g]?) : DkAt W' d m1 m2 v D := by
  have c : ∀ i, W'.cell? ⟨d, i, none⟩ = W.cell? ⟨d, i, none⟩ := fun i => World.cell?_of_block (a := ⟨d, i, none⟩) e1
  have f : ∀ i, W'.frozen? ⟨d, i, none⟩ = W.frozen? ⟨d, i, none⟩ := fun i => World.frozen?_of_block (a := ⟨d, i, none⟩) e1
  exact ⟨(c _).trans h.c0, (c _).trans h.c1, (c _).trans h.c2, (c _).trans h.c3, (c _).trans h.c4, (c _).trans h.c5, fun i => (f i).trans (h.fz i), h.sure.of_block e2, h.reads.of_block e3, ownsRow_of_block h.row e4, h.o1, h.o2, Nat.lt_of_lt_of_le h.lt hs, h.ok⟩

theorem DkAt.below {W W' : World} {d m1 m2 : Nat} {v : Value} {D : Dk} (h : DkAt W d m1 m2 v D) (hb : Below W.heap.size W W') : DkAt W' d m1 m2 v D :=
  h.of_blocks hb.size (hb.block _ h.lt) (hb.block _ h.sure.lt) (hb.block _ h.reads.lt) (fun _ hg => hb.block _ (ownsRow_ge h.row hg).2)

theorem setCell_size (W : World) (a : Addr) (u : Value) : (W.setCell a u).heap.size = W.heap.size := by simp [World.setCell]

/-- One of the struct's cells written. -/
theorem DkAt.cellSet {W : World} {d m1 m2 : Nat} {v : Value} {D : Dk} (h : DkAt W d m1 m2 v D) (j : Nat) (u : Value) :
    (∀ i, i ≠ j → (W.setCell ⟨d, j, none⟩ u).cell? ⟨d, i, none⟩ = W.cell? ⟨d, i, none⟩) ∧ (∀ i, (W.setCell ⟨d, j, none⟩ u).frozen? ⟨d, i, none⟩ = false) ∧
    SureAt (W.setCell ⟨d, j, none⟩ u) m1 D.sure ∧ ReadsAt (W.setCell ⟨d, j, none⟩ u) m2 D.reads ∧ (W.setCell ⟨d, j, none⟩ u).ownsRow (d + 1) 145 65 v D.loose.length (loCells D.loose) ∧ d < (W.setCell ⟨d, j, none⟩ u).heap.size ∧
    (∀ k, k ≠ d → (W.setCell ⟨d, j, none⟩ u).heap[k]? = W.heap[k]?) := by
  have hb : ∀ k, k ≠ d → (W.setCell ⟨d, j, none⟩ u).heap[k]? = W.heap[k]? := fun k hk => Below.heap_setCell W ⟨d, j, none⟩ u k hk
  have o1 := h.o1
  have o2 := h.o2
  refine ⟨fun i hi => World.cell?_setCell_other _ _ _ _ (fun e => hi (by injection e with _ e2; exact e2.symm)), fun i => by rw [World.frozen?_setCell]; exact h.fz i, h.sure.of_block (hb _ (by omega)), h.reads.of_block (hb _ (by omega)),
    ownsRow_of_block h.row (fun g hg => hb g (by have := (ownsRow_ge h.row hg).1; omega)), by rw [setCell_size]; exact h.lt, hb⟩

theorem DkAt.setDown {W : World} {d m1 m2 : Nat} {v : Value} {D : Dk} (h : DkAt W d m1 m2 v D) (b : Bool) : DkAt (W.setCell ⟨d, 3, none⟩ (.bool b)) d m1 m2 v { D with down := b } ∧ DFr W (W.setCell ⟨d, 3, none⟩ (.bool b)) d m1 m2 v v := by
  obtain ⟨k1, k2, k3, k4, k5, k6, k7⟩ := h.cellSet 3 (.bool b)
  exact ⟨⟨(k1 0 (by decide)).trans h.c0, (k1 1 (by decide)).trans h.c1, (k1 2 (by decide)).trans h.c2, World.cell?_setCell_same _ _ _ h.c3, (k1 4 (by decide)).trans h.c4, (k1 5 (by decide)).trans h.c5, k2, k3, k4, k5, h.o1, h.o2, k6, ⟨h.ok.sure, h.ok.loose⟩⟩,
    rfl, rfl, rfl, by rw [setCell_size]; exact Nat.le_refl _, fun k _ hk _ _ _ => k7 k hk, fun _ h => .inl h⟩

theorem DkAt.setFuse {W : World} {d m1 m2 : Nat} {v : Value} {D : Dk} (h : DkAt W d m1 m2 v D) (n : Int) : DkAt (W.setCell ⟨d, 4, none⟩ (.int .i64 n)) d m1 m2 v { D with fuse := n } ∧ DFr W (W.setCell ⟨d, 4, none⟩ (.int .i64 n)) d m1 m2 v v := by
  obtain ⟨k1, k2, k3, k4, k5, k6, k7⟩ := h.cellSet 4 (.int .i64 n)
  exact ⟨⟨(k1 0 (by decide)).trans h.c0, (k1 1 (by decide)).trans h.c1, (k1 2 (by decide)).trans h.c2, (k1 3 (by decide)).trans h.c3, World.cell?_setCell_same _ _ _ h.c4, (k1 5 (by decide)).trans h.c5, k2, k3, k4, k5, h.o1, h.o2, k6, ⟨h.ok.sure, h.ok.loose⟩⟩,
    rfl, rfl, rfl, by rw [setCell_size]; exact Nat.le_refl _, fun k _ hk _ _ _ => k7 k hk, fun _ h => .inl h⟩

/-- Another row laid into the struct. -/
theorem DkAt.setRow {W : World} {d m1 m2 : Nat} {v v' : Value} {D : Dk} (h : DkAt W d m1 m2 v D) (l : List Wr) (hl : ∀ x ∈ l, x.2.length = 64) (hr : W.ownsRow (d + 1) 145 65 v' l.length (loCells l)) :
    DkAt (W.setCell ⟨d, 2, none⟩ v') d m1 m2 v' { D with loose := l } := by
  obtain ⟨k1, k2, k3, k4, _, k6, k7⟩ := h.cellSet 2 v'
  exact ⟨(k1 0 (by decide)).trans h.c0, (k1 1 (by decide)).trans h.c1, World.cell?_setCell_same _ _ _ h.c2, (k1 3 (by decide)).trans h.c3, (k1 4 (by decide)).trans h.c4, (k1 5 (by decide)).trans h.c5, k2, k3, k4,
    ownsRow_of_block hr (fun g hg => k7 g (by have := (ownsRow_ge hr hg).1; omega)), h.o1, h.o2, k6, ⟨h.ok.sure, hl⟩⟩

theorem turned_block {W W' : World} {m : Nat} (h : W.mapTurned W' m) : W'.heap.size = W.heap.size ∧ (∀ k, k ≠ m → W'.heap[k]? = W.heap[k]?) ∧ W'.os = W.os ∧ W'.tape = W.tape ∧ W'.output = W.output := by
  have g := h.grown
  obtain ⟨es, clock, es', clock', hb, rfl⟩ := h
  refine ⟨by simp [ChangeMaps.setBlock], fun k hk => ?_, g.os, g.tape, g.output⟩
  by_cases hlt : k < W.heap.size
  · exact g.block k hlt (by simpa using hk)
  · have h1 : ¬ k < (ChangeMaps.setBlock W m (.map es' clock')).heap.size := by simpa [ChangeMaps.setBlock] using hlt
    rw [Array.getElem?_eq_none (by omega), Array.getElem?_eq_none (by omega)]

theorem DkAt.sureTurned {W W' : World} {d m1 m2 : Nat} {v : Value} {D : Dk} (h : DkAt W d m1 m2 v D) (ht : W.mapTurned W' m1) (s : Int → List UInt8) (hs : SureAt W' m1 s) (hl : ∀ i, (s i).length = 64) : DkAt W' d m1 m2 v { D with sure := s } ∧ DFr W W' d m1 m2 v v := by
  obtain ⟨k1, k2, k3, k4, k5⟩ := turned_block ht
  have o1 := h.o1
  have o2 := h.o2
  have c : ∀ i, W'.cell? ⟨d, i, none⟩ = W.cell? ⟨d, i, none⟩ := fun i => World.cell?_of_block (a := ⟨d, i, none⟩) (k2 d (by omega))
  have f : ∀ i, W'.frozen? ⟨d, i, none⟩ = W.frozen? ⟨d, i, none⟩ := fun i => World.frozen?_of_block (a := ⟨d, i, none⟩) (k2 d (by omega))
  exact ⟨⟨(c _).trans h.c0, (c _).trans h.c1, (c _).trans h.c2, (c _).trans h.c3, (c _).trans h.c4, (c _).trans h.c5, fun i => (f i).trans (h.fz i), hs, h.reads.of_block (k2 _ (by omega)),
    ownsRow_of_block h.row (fun g hg => k2 g (by have := (ownsRow_ge h.row hg).1; omega)), h.o1, h.o2, by rw [k1]; exact h.lt, ⟨hl, h.ok.loose⟩⟩, k3, k4, k5, by omega, fun k _ _ hk _ _ => k2 k hk, fun _ h => .inl h⟩

theorem DkAt.readsTurned {W W' : World} {d m1 m2 : Nat} {v : Value} {D : Dk} (h : DkAt W d m1 m2 v D) (ht : W.mapTurned W' m2) (s : Int → Int) (hs : ReadsAt W' m2 s) : DkAt W' d m1 m2 v { D with reads := s } ∧ DFr W W' d m1 m2 v v := by
  obtain ⟨k1, k2, k3, k4, k5⟩ := turned_block ht
  have o1 := h.o1
  have o2 := h.o2
  have c : ∀ i, W'.cell? ⟨d, i, none⟩ = W.cell? ⟨d, i, none⟩ := fun i => World.cell?_of_block (a := ⟨d, i, none⟩) (k2 d (by omega))
  have f : ∀ i, W'.frozen? ⟨d, i, none⟩ = W.frozen? ⟨d, i, none⟩ := fun i => World.frozen?_of_block (a := ⟨d, i, none⟩) (k2 d (by omega))
  exact ⟨⟨(c _).trans h.c0, (c _).trans h.c1, (c _).trans h.c2, (c _).trans h.c3, (c _).trans h.c4, (c _).trans h.c5, fun i => (f i).trans (h.fz i), h.sure.of_block (k2 _ (by omega)), hs,
    ownsRow_of_block h.row (fun g hg => k2 g (by have := (ownsRow_ge h.row hg).1; omega)), h.o1, h.o2, by rw [k1]; exact h.lt, ⟨h.ok.sure, h.ok.loose⟩⟩, k3, k4, k5, by omega, fun k _ _ _ hk _ => k2 k hk, fun _ h => .inl h⟩

theorem zero138 (w : World) : (zeroValue 56).run Try.prog w = .ok (.agg (zero64.map bv).toArray) w := by kernel_rfl
theorem zero139 (w : World) : (zeroValue 3).run Try.prog w = .ok (.int .i64 0) w := by kernel_rfl

theorem SureAt.look {W : World} {m : Nat} {s : Int → List UInt8} (h : SureAt W m s) (i : Int) : (Instr.lookup 138 (.map (some m)) (.int .i64 i) false).run Try.prog W = .ok (.agg ((s i).map bv).toArray) W := by
  obtain ⟨f, h1, h2⟩ := h
  rw [h1.look Try.underlying138 Try.underlying3 (zero138 W) i, h2]
theorem ReadsAt.look {W : World} {m : Nat} {s : Int → Int} (h : ReadsAt W m s) (i : Int) : (Instr.lookup 139 (.map (some m)) (.int .i64 i) false).run Try.prog W = .ok (.int .i64 (s i)) W := by
  obtain ⟨f, h1, h2⟩ := h
  rw [h1.look Try.underlying139 Try.underlying3 (zero139 W) i, h2]
theorem SureAt.store {W : World} {m : Nat} {s : Int → List UInt8} (h : SureAt W m s) (i : Int) (p : List UInt8) : ∃ W', (Instr.mapUpdate 138 (.map (some m)) (.int .i64 i) (.agg (p.map bv).toArray)).run Try.prog W = .ok () W' ∧ W.mapTurned W' m ∧ SureAt W' m (put s i p) := by
  obtain ⟨f, h1, h2⟩ := h
  obtain ⟨W', r, t, h3⟩ := h1.store Try.underlying138 Try.underlying3 i (.agg (p.map bv).toArray)
  refine ⟨W', r, t, _, h3, fun j => ?_⟩
  unfold upd put
  split
  · rfl
  · exact h2 j
theorem ReadsAt.store {W : World} {m : Nat} {s : Int → Int} (h : ReadsAt W m s) (i : Int) (x : Int) : ∃ W', (Instr.mapUpdate 139 (.map (some m)) (.int .i64 i) (.int .i64 x)).run Try.prog W = .ok () W' ∧ W.mapTurned W' m ∧ ReadsAt W' m (fun j => if j = i then x else s j) := by
  obtain ⟨f, h1, h2⟩ := h
  obtain ⟨W', r, t, h3⟩ := h1.store Try.underlying139 Try.underlying3 i (.int .i64 x)
  refine ⟨W', r, t, _, h3, fun j => ?_⟩
  unfold upd
  by_cases hj : j = i
  · simp [hj]
  · simp only [if_neg hj]; exact h2 j
end Go.Proofs.Ytmaaljfcnnlnpaa
