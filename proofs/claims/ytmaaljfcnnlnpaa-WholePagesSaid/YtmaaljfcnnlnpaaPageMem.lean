/-
  Sixty-four bytes that lie in a block of their own.
-/
import Derived.Test.YtmaaljfcnnlnpaaCrcWalk3
import Derived.Test.YtmaaljfcnnlnpaaFragLaw1
import Derived.Deep.MidRow
import Derived.Deep.RegionHeld3
import Derived.Deep.DrawnRows
import Derived.Lib.LazyBuf
namespace Go.Proofs.Ytmaaljfcnnlnpaa
open Go.RowKit

/-- The value of a page's bytes. -/
def pgB (bs : List UInt8) : Value := .agg (bs.map bv).toArray

/-- A page's bytes in a block of their own. -/
structure Buf (W : World) (g : Nat) (bs : List UInt8) : Prop where
  range : W.rangeAt g 0 (bs.map bv)
  frozen : ∀ i, W.frozen? ⟨g, i, none⟩ = false
  len : bs.length = 64
  lt : g < W.heap.size

theorem Buf.there {W : World} {g : Nat} {bs : List UInt8} (h : Buf W g bs) : W.there g 0 64 := fun j hj =>
  ⟨h.range.isSome j (by simpa [h.len] using hj), by rw [Nat.zero_add]; exact h.frozen j⟩

theorem Buf.cell {W : World} {g : Nat} {bs : List UInt8} (h : Buf W g bs) (j : Nat) (hj : j < bs.length) : W.cell? ⟨g, j, none⟩ = some (bv bs[j]) := by
  have := h.range j (bv bs[j]) (by simp [hj])
  rwa [Nat.zero_add] at this

theorem Buf.bytesAt {W : World} {g : Nat} {bs : List UInt8} (h : Buf W g bs) : BytesAt W g 0 bs := fun j hj => by rw [Nat.zero_add]; exact h.cell j hj

theorem Buf.bytesFrom {W : World} {g : Nat} {bs : List UInt8} (h : Buf W g bs) (o n : Nat) : BytesAt W g o ((bs.drop o).take n) := fun j hj => by
  have hj2 : j < n ∧ o + j < bs.length := by simp at hj; omega
  rw [h.cell (o + j) hj2.2]
  simp

theorem Buf.below {B : Nat} {W W' : World} {g : Nat} {bs : List UInt8} (h : Buf W g bs) (hb : Below B W W') (hlt : g < B) : Buf W' g bs :=
  ⟨fun j v hv => (hb.cell (p := ⟨g, 0 + j, none⟩) hlt).trans (h.range j v hv), fun i => (hb.frozen (p := ⟨g, i, none⟩) hlt).trans (h.frozen i), h.len, Nat.lt_of_lt_of_le h.lt hb.size⟩

theorem Buf.step {W W' : World} {g : Nat} {bs : List UInt8} (h : Buf W g bs) (hb : Below W.heap.size W W') : Buf W' g bs := h.below hb h.lt

theorem Buf.alloc {W : World} {g : Nat} {bs : List UInt8} (h : Buf W g bs) (x : Obj) : Buf (W.alloc x) g bs := h.step ((Below.refl _ _).alloc (Nat.le_refl _) x)
theorem Buf.drew {W : World} {g : Nat} {bs : List UInt8} (h : Buf W g bs) : Buf W.drew g bs := h.step (Below.refl _ _).drew

theorem Buf.new (w : World) (bs : List UInt8) (c : Array Value) (t : TypeId) (hc : c = (bs.map bv).toArray) (hl : bs.length = 64) : Buf (w.alloc (.cells c t)) w.heap.size bs :=
  ⟨fun j v hv => by
    rw [Nat.zero_add, World.cell?_alloc_new, hc]
    simpa using hv, fun i => World.frozen?_alloc_new _ _ _ _, hl, by simp⟩

theorem BytesAt.keep {W W' : World} {n B o : Nat} {bs : List UInt8} (h : BytesAt W B o bs) (hb : Below n W W') (hlt : B < n) : BytesAt W' B o bs :=
  fun j hj => (hb.cell (p := ⟨B, o + j, none⟩) hlt).trans (h j hj)

/-- Some bytes put in place of those that stood there. -/
def splice (bs : List UInt8) (o : Nat) (vs : List UInt8) : List UInt8 := bs.take o ++ vs ++ bs.drop (o + vs.length)

theorem splice_length (bs : List UInt8) (o : Nat) (vs : List UInt8) (h : o + vs.length ≤ bs.length) : (splice bs o vs).length = bs.length := by
  simp [splice]; omega

theorem heap_size_setCells (b : Nat) : ∀ (vs : List Value) (o : Nat) (w : World), (w.setCells b o vs).heap.size = w.heap.size
  | [], _, _ => rfl
  | v :: r, o, w => by rw [World.setCells, heap_size_setCells b r]; simp [World.setCell]

theorem Buf.copy {W : World} {g : Nat} {bs : List UInt8} (h : Buf W g bs) (o : Nat) (vs : List UInt8) (ho : o + vs.length ≤ 64) : Buf (W.setCells g o (vs.map bv)) g (splice bs o vs) := by
  have hl := h.len
  refine ⟨fun j v hv => ?_, fun i => by rw [World.frozen?_setCells]; exact h.frozen i, by rw [splice_length _ _ _ (by omega)]; exact hl, by rw [heap_size_setCells]; exact h.lt⟩
  rw [Nat.zero_add]
  have hj : j < (splice bs o vs).length := by have := (List.getElem?_eq_some_iff.1 hv).1; simpa using this
  rw [splice_length _ _ _ (by omega)] at hj
  rw [List.getElem?_map] at hv
  by_cases h1 : j < o
  · rw [World.cell?_setCells_out g _ o W ⟨g, j, none⟩ (fun _ _ => .inl h1)]
    have e : (splice bs o vs)[j]? = bs[j]? := by
      unfold splice
      rw [List.append_assoc, List.getElem?_append_left (by simp; omega), List.getElem?_take_of_lt h1]
    rw [e] at hv
    have := h.range j v (by rw [List.getElem?_map]; exact hv)
    rwa [Nat.zero_add] at this
  · by_cases h2 : j < o + vs.length
    · have hin := World.cell?_setCells_in g (vs.map bv) o W (fun i hi => h.range.isSome (o + i) (by simp at hi ⊢; omega) |> fun x => by rwa [Nat.zero_add] at x) (j - o) (by simp; omega)
      rw [show o + (j - o) = j by omega] at hin
      rw [hin]
      have e : (splice bs o vs)[j]? = vs[j - o]? := by
        unfold splice
        rw [List.append_assoc, List.getElem?_append_right (by simp; omega)]
        have : (bs.take o).length = o := by simp; omega
        rw [this, List.getElem?_append_left (by omega)]
      rw [e, ← List.getElem?_map] at hv
      rw [← hv, List.getElem?_eq_getElem (by simp; omega)]
    · rw [World.cell?_setCells_out g _ o W ⟨g, j, none⟩ (fun _ _ => .inr (by simp; omega))]
      have e : (splice bs o vs)[j]? = bs[j]? := by
        unfold splice
        rw [List.getElem?_append_right (by simp; omega)]
        have : (bs.take o ++ vs).length = o + vs.length := by simp; omega
        rw [this, List.getElem?_drop]
        congr 1
        omega
      rw [e] at hv
      have := h.range j v (by rw [List.getElem?_map]; exact hv)
      rwa [Nat.zero_add] at this

theorem Buf.set {W : World} {g : Nat} {bs : List UInt8} (h : Buf W g bs) (j : Nat) (x : UInt8) : Buf (W.setCell ⟨g, j, none⟩ (bv x)) g (bs.set j x) := by
  refine ⟨fun i v hv => ?_, fun i => by rw [World.frozen?_setCell]; exact h.frozen i, by simpa using h.len, by simpa [World.setCell] using h.lt⟩
  rw [Nat.zero_add]
  rw [List.getElem?_map, List.getElem?_set] at hv
  by_cases e : j = i
  · subst e
    rw [if_pos rfl] at hv
    split at hv
    · rename_i hlt
      rw [World.cell?_setCell_same _ _ _ (h.cell j hlt)]
      exact hv
    · cases hv
  · rw [if_neg e] at hv
    rw [World.cell?_setCell_other _ _ _ _ (fun e2 => e (by injection e2))]
    have := h.range i v (by rw [List.getElem?_map]; exact hv)
    rwa [Nat.zero_add] at this

/-- Another block's bytes stay. -/
theorem Buf.far {W : World} {g g' : Nat} {bs : List UInt8} (h : Buf W g bs) (hne : g ≠ g') (o : Nat) (vs : List Value) : Buf (W.setCells g' o vs) g bs :=
  ⟨World.rangeAt_setCells_apart h.range _ _ _ (.inl hne), fun i => by rw [World.frozen?_setCells]; exact h.frozen i, h.len, by rw [heap_size_setCells]; exact h.lt⟩

theorem info56 : (Try.prog.info? 56).map (·.size) = some 64 := by kernel_rfl
theorem info55 : (Try.prog.info? 55).map (·.size) = some 64 := by kernel_rfl

/-- The whole is read. -/
theorem Buf.load56 {W : World} {g : Nat} {bs : List UInt8} (h : Buf W g bs) : (Instr.loadAt 56 (.pointer (some ⟨g, 0, none⟩))).run Try.prog W = .ok (pgB bs) W :=
  run_loadAt_mid W g 0 56 (bs.map bv) _ h.range Try.underlying56 rfl (by rw [info56, List.length_map, h.len])
theorem Buf.load55 {W : World} {g : Nat} {bs : List UInt8} (h : Buf W g bs) : (Instr.loadAt 55 (.pointer (some ⟨g, 0, none⟩))).run Try.prog W = .ok (pgB bs) W :=
  run_loadAt_mid W g 0 55 (bs.map bv) _ h.range Try.underlying55 rfl (by rw [info55, List.length_map, h.len])

theorem all_bv (bs : List UInt8) : ((bs.map bv).toArray).all (·.oneCell') = true := by
  refine all_oneCell_toArray (fun v hv => ?_)
  obtain ⟨x, _, rfl⟩ := List.mem_map.1 hv
  rfl

/-- The whole is written. -/
theorem Buf.store56 {W : World} {g : Nat} {bs : List UInt8} (h : Buf W g bs) (vs : List UInt8) (hv : vs.length = 64) : (Instr.storeAt 56 (.pointer (some ⟨g, 0, none⟩)) (pgB vs)).run Try.prog W = .ok () (W.setCells g 0 (vs.map bv)) :=
  run_storeAt_mid W g 0 56 _ (by have := h.there; simpa [hv] using this) (by rw [info56]; simp [hv]) (all_bv vs)
theorem Buf.store55 {W : World} {g : Nat} {bs : List UInt8} (h : Buf W g bs) (vs : List UInt8) (hv : vs.length = 64) : (Instr.storeAt 55 (.pointer (some ⟨g, 0, none⟩)) (pgB vs)).run Try.prog W = .ok () (W.setCells g 0 (vs.map bv)) :=
  run_storeAt_mid W g 0 55 _ (by have := h.there; simpa [hv] using this) (by rw [info55]; simp [hv]) (all_bv vs)

section
variable {ops : Array Oper} {rest : List Oper} {op : Oper} {a : Act} {w : World} {Q : Exit → Act → World → Prop}
theorem wpList_load56 (hgd : op.guard = none) (x : Operand) (ho : op.op = .load 56 x) (g : Nat) (hx : a.eval x = .pointer (some ⟨g, 0, none⟩)) (bs : List UInt8) (hb : Buf w g bs)
    (h : wpList Try.prog ops Q rest (a.put op.dst (pgB bs)) w) : wpList Try.prog ops Q (op :: rest) a w :=
  wpList_load_mid hgd 56 x ho g 0 hx (bs.map bv) _ hb.range Try.underlying56 rfl (by rw [info56, List.length_map, hb.len]) h
theorem wpList_load55 (hgd : op.guard = none) (x : Operand) (ho : op.op = .load 55 x) (g : Nat) (hx : a.eval x = .pointer (some ⟨g, 0, none⟩)) (bs : List UInt8) (hb : Buf w g bs)
    (h : wpList Try.prog ops Q rest (a.put op.dst (pgB bs)) w) : wpList Try.prog ops Q (op :: rest) a w :=
  wpList_load_mid hgd 55 x ho g 0 hx (bs.map bv) _ hb.range Try.underlying55 rfl (by rw [info55, List.length_map, hb.len]) h
theorem wpList_store56 (hgd : op.guard = none) (x y : Operand) (ho : op.op = .store 56 x y) (g : Nat) (hx : a.eval x = .pointer (some ⟨g, 0, none⟩)) (vs : List UInt8) (hy : a.eval y = pgB vs) (bs : List UInt8) (hb : Buf w g bs) (hv : vs.length = 64)
    (h : wpList Try.prog ops Q rest (a.put op.dst undef) (w.setCells g 0 (vs.map bv))) : wpList Try.prog ops Q (op :: rest) a w :=
  wpList_store_mid hgd 56 x y ho g 0 _ hx hy (by have := hb.there; simpa [hv] using this) (by rw [info56]; simp [hv]) (all_bv vs) h
theorem wpList_store55 (hgd : op.guard = none) (x y : Operand) (ho : op.op = .store 55 x y) (g : Nat) (hx : a.eval x = .pointer (some ⟨g, 0, none⟩)) (vs : List UInt8) (hy : a.eval y = pgB vs) (bs : List UInt8) (hb : Buf w g bs) (hv : vs.length = 64)
    (h : wpList Try.prog ops Q rest (a.put op.dst undef) (w.setCells g 0 (vs.map bv))) : wpList Try.prog ops Q (op :: rest) a w :=
  wpList_store_mid hgd 55 x y ho g 0 _ hx hy (by have := hb.there; simpa [hv] using this) (by rw [info55]; simp [hv]) (all_bv vs) h
end

theorem results_cell1 {fn : Func} {p : Tmp} {ty : TypeId} (h : fn.results = #[.cell p ty]) (tmps : Array Value) (w : World) (ad : Addr) (v : Value) (hp : tmps.getD p undef = .pointer (some ad))
    (hl : (loadVar ty ad).run Try.prog w = .ok v w) : (results fn tmps).run Try.prog w = .ok v w := by
  have hp' : tmps[p]?.getD undef = .pointer (some ad) := by simpa using hp
  simp only [results, h]
  simp [hp', asAddr, hl]
theorem results_cell2 {fn : Func} {p u : Tmp} {ty : TypeId} (h : fn.results = #[.cell p ty, .tmp u]) (tmps : Array Value) (w : World) (ad : Addr) (v x : Value) (hp : tmps.getD p undef = .pointer (some ad))
    (hl : (loadVar ty ad).run Try.prog w = .ok v w) (hx : tmps.getD u undef = x) : (results fn tmps).run Try.prog w = .ok (.tuple #[v, x]) w := by
  have hp' : tmps[p]?.getD undef = .pointer (some ad) := by simpa using hp
  subst hx
  simp only [results, h]
  simp [hp', asAddr, hl]
theorem Buf.loadVar56 {W : World} {g : Nat} {bs : List UInt8} (h : Buf W g bs) : (loadVar 56 ⟨g, 0, none⟩).run Try.prog W = .ok (pgB bs) W :=
  run_loadVar_mid W g 0 56 (bs.map bv) _ h.range Try.underlying56 rfl (by rw [info56, List.length_map, h.len])
theorem Buf.loadVar55 {W : World} {g : Nat} {bs : List UInt8} (h : Buf W g bs) : (loadVar 55 ⟨g, 0, none⟩).run Try.prog W = .ok (pgB bs) W :=
  run_loadVar_mid W g 0 55 (bs.map bv) _ h.range Try.underlying55 rfl (by rw [info55, List.length_map, h.len])

theorem splice_all (bs vs : List UInt8) (h : vs.length = bs.length) : splice bs 0 vs = vs := by
  simp [splice, h]
theorem Buf.stored {W : World} {g : Nat} {bs : List UInt8} (h : Buf W g bs) (vs : List UInt8) (hv : vs.length = 64) : Buf (W.setCells g 0 (vs.map bv)) g vs := by
  have := h.copy 0 vs (by omega)
  rwa [splice_all _ _ (by rw [hv, h.len])] at this
end Go.Proofs.Ytmaaljfcnnlnpaa
