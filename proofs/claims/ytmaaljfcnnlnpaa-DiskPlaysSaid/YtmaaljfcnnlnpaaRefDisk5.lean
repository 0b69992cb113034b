/-
  The document's disk: a write.
-/
import Derived.Test.YtmaaljfcnnlnpaaRefDisk4
import Derived.Test.YtmaaljfcnnlnpaaRefInv
import Derived.Great.BuildSlice
namespace Go.Proofs.Ytmaaljfcnnlnpaa
open Go.RowKit

theorem Buf.of_block6 {W X : World} {g : Nat} {p : List UInt8} (h : Buf W g p) (e : X.heap[g]? = W.heap[g]?) (hlt : g < X.heap.size) : Buf X g p :=
  ⟨fun j v hv => (World.cell?_of_block (a := ⟨g, 0 + j, none⟩) e).trans (h.range j v hv), fun j => (World.frozen?_of_block (a := ⟨g, j, none⟩) e).trans (h.frozen j), h.len, hlt⟩

/-- Two structs of the call's own, and a page. -/
structure Bp (W X : World) (e1 e2 pb : Nat) (cs1 cs2 : List Value) (p : List UInt8) : Prop where
  bx : Bx W X e1 e2 cs1 cs2
  pg : Buf X pb p
  n1 : pb ≠ e1
  n2 : pb ≠ e2
  g : W.heap.size ≤ pb

section
variable {W X : World} {e1 e2 pb : Nat} {cs1 cs2 : List Value} {p : List UInt8}
theorem Bp.step (h : Bp W X e1 e2 pb cs1 cs2 p) {Y : World} (hb : Below X.heap.size X Y) : Bp W Y e1 e2 pb cs1 cs2 p :=
  ⟨h.bx.step hb, h.pg.step hb, h.n1, h.n2, h.g⟩
theorem Bp.set1 (h : Bp W X e1 e2 pb cs1 cs2 p) (vs : List Value) (hl : vs.length = 6) : Bp W (X.setCells e1 0 vs) e1 e2 pb vs cs2 p :=
  ⟨h.bx.set1 vs hl, h.pg.of_block6 (setCells_block _ _ _ _ _ h.n1) (by rw [heap_size_setCells]; exact h.pg.lt), h.n1, h.n2, h.g⟩
theorem Bp.set2 (h : Bp W X e1 e2 pb cs1 cs2 p) (vs : List Value) (hl : vs.length = 6) : Bp W (X.setCells e2 0 vs) e1 e2 pb cs1 vs p :=
  ⟨h.bx.set2 vs hl, h.pg.of_block6 (setCells_block _ _ _ _ _ h.n2) (by rw [heap_size_setCells]; exact h.pg.lt), h.n1, h.n2, h.g⟩
theorem Bp.one (h : Bp W X e1 e2 pb cs1 cs2 p) (j : Nat) (hj : j < 6) (v : Value) : Bp W (X.setCell ⟨e1, j, none⟩ v) e1 e2 pb (cs1.set j v) cs2 p :=
  ⟨h.bx.one j hj v, h.pg.of_block6 (Below.heap_setCell X ⟨e1, j, none⟩ v pb h.n1) (by rw [setCell_size]; exact h.pg.lt), h.n1, h.n2, h.g⟩
end

theorem Bp.start (W : World) (cs : List Value) (h : cs.length = 6) (p : List UInt8) (hp : p.length = 64) :
    Bp W (((W.alloc (.cells cs.toArray 102)).alloc (.cells (p.map bv).toArray 55)).alloc (.cells zero6.toArray 102)) W.heap.size (W.heap.size + 1 + 1) (W.heap.size + 1) cs zero6 p := by
  have hs : (W.alloc (.cells cs.toArray 102)).heap.size = W.heap.size + 1 := by simp
  have hs2 : ((W.alloc (.cells cs.toArray 102)).alloc (.cells (p.map bv).toArray 55)).heap.size = W.heap.size + 1 + 1 := by simp
  have hb1 : Below (W.alloc (.cells cs.toArray 102)).heap.size (W.alloc (.cells cs.toArray 102)) ((W.alloc (.cells cs.toArray 102)).alloc (.cells (p.map bv).toArray 55)) := (Below.refl _ _).alloc (Nat.le_refl _) _
  have hb2 : Below ((W.alloc (.cells cs.toArray 102)).alloc (.cells (p.map bv).toArray 55)).heap.size ((W.alloc (.cells cs.toArray 102)).alloc (.cells (p.map bv).toArray 55)) (((W.alloc (.cells cs.toArray 102)).alloc (.cells (p.map bv).toArray 55)).alloc (.cells zero6.toArray 102)) := (Below.refl _ _).alloc (Nat.le_refl _) _
  have k1 := Box6.new W cs h
  have k1' : Box6 ((W.alloc (.cells cs.toArray 102)).alloc (.cells (p.map bv).toArray 55)) W.heap.size cs := k1.of_block (hb1.block _ k1.lt) (Nat.lt_of_lt_of_le k1.lt hb1.size)
  have k2 := Box6.new ((W.alloc (.cells cs.toArray 102)).alloc (.cells (p.map bv).toArray 55)) zero6 rfl
  rw [hs2] at k2
  have k3 : Buf _ _ p := Buf.new (W.alloc (.cells cs.toArray 102)) p (p.map bv).toArray 55 rfl hp
  rw [hs] at k3
  exact ⟨⟨k1'.of_block (hb2.block _ k1'.lt) (Nat.lt_of_lt_of_le k1'.lt hb2.size), k2, by omega, Nat.le_refl _, by omega, (alloc2_below W _ _).alloc (by rw [hs2]; omega) _⟩, k3.step hb2, by omega, by omega, by omega⟩

theorem row_more {X : World} {base : Nat} {e : TypeId} {size : Nat} {v : Value} {n : Nat} {xs : List Value} (h : X.ownsRow base e size v n xs) (x : Obj) : (X.alloc x).ownsRow base e size v n xs :=
  ownsRow_of_block h (fun g hg => ((Below.refl _ X).alloc (Nat.le_refl _) x).block g (ownsRow_ge h hg).2)
theorem row_out {X : World} {base : Nat} {e : TypeId} {size : Nat} {v : Value} {n : Nat} {xs : List Value} (h : X.ownsRow base e size v n xs) {k : Nat} (hk : k < base) : v.ownBlock ≠ some k := fun e => by
  have := (ownsRow_ge h e).1
  omega

theorem fill_page (p : List UInt8) (hp : p.length = 64) (cells : Array Value) (hc : cells.size = 64) : Instr.fill (fun i => some (i * 64, 64)) cells [(0, .agg (p.map bv).toArray)] = some (p.map bv).toArray := by
  obtain ⟨r, h1, h2, h3⟩ := Great.fill_dense (s := 64) (by decide) [.agg (p.map bv).toArray] 0 cells (fun v hv => by
    obtain rfl := List.mem_singleton.1 hv
    show (p.map bv).toArray.size = 64
    simp [hp]) (by simp [hc])
  refine h1.trans (congrArg some ?_)
  apply Array.ext_getElem?
  intro k
  rw [h3 k]
  by_cases hk : k < 64
  · rw [if_pos (by simp; omega)]
    have e1 : k / 64 = 0 := by omega
    have e2 : k % 64 = k := by omega
    rw [e1, e2]
    rfl
  · rw [if_neg (by simp; omega), Array.getElem?_eq_none (by omega), Array.getElem?_eq_none (by simp [hp]; omega)]

theorem wp_one99 {w : World} {o : Oper} {a : Act} {K : Act → World → Prop} {Q : Exit → Act → World → Prop} (y : Operand) (ho : o.op = .buildSlice 99 1 #[(0, y)]) (p : List UInt8) (hp : p.length = 64) (hy : a.eval y = .agg (p.map bv).toArray)
    (h : K (a.put o.dst (.slice (some ⟨w.heap.size, 0, none⟩) 1 1)) (w.alloc (.cells (p.map bv).toArray 55))) : o.wp Try.prog a w K Q := by
  obtain ⟨i, E⟩ := el99
  refine wp_buildSlice 99 55 1 _ ho (p.map bv).toArray i _ E.ht E.hi E.hz (by rw [E.hsize]; decide) (by rw [E.hsize]; decide) ?_ h
  rw [E.hsize]
  have e : (Array.map (fun x : Nat × Operand => (x.1, a.eval x.2)) #[(0, y)]).toList = [(0, .agg (p.map bv).toArray)] := by
    simp [hy]
  exact (congrArg _ e).trans (fill_page p hp _ (by simp))

theorem buf_src {W : World} {b : Nat} {p : List UInt8} (h : Buf W b p) : RowSrc W 64 (.slice (some ⟨b, 0, none⟩) 1 1) 1 (p.map bv) := by
  refine .inr ⟨_, _, rfl, by rw [List.length_map, h.len], fun j u hu => ?_, fun u hu => ?_⟩
  · rw [addr_add]
    exact h.range j u hu
  · obtain ⟨x, _, rfl⟩ := List.mem_map.1 hu
    rfl

theorem int_src {W : World} {b : Nat} {x : Int} (h : W.cell? ⟨b, 0, none⟩ = some (.int .i64 x)) : RowSrc W 1 (.slice (some ⟨b, 0, none⟩) 1 1) 1 [.int .i64 x] := by
  refine .inr ⟨_, _, rfl, rfl, fun j u hu => ?_, fun u hu => ?_⟩
  · match j with
    | 0 =>
      rw [addr_add]
      cases hu
      exact h
    | j + 1 => cases hu
  · obtain rfl : u = .int .i64 x := by simpa using hu
    rfl

theorem wpList_store55k {ops : Array Oper} {rest : List Oper} {op : Oper} {a : Act} {w : World} {Q : Exit → Act → World → Prop} (hgd : op.guard = none) (x y : Operand) (ho : op.op = .store 55 x y) (g o : Nat) (hx : a.eval x = .pointer (some ⟨g, o, none⟩))
    (p : List UInt8) (hy : a.eval y = .agg (p.map bv).toArray) (hp : p.length = 64) (ht : w.there g o 64) (h : wpList Try.prog ops Q rest (a.put op.dst undef) (w.setCells g o (p.map bv))) : wpList Try.prog ops Q (op :: rest) a w :=
  wpList_store_mid hgd 55 x y ho g o (p.map bv).toArray hx hy (by simpa [hp] using ht) (by rw [info55]; simp [hp]) (all_bv p) h

theorem Bp.far {W X : World} {e1 e2 pb : Nat} {cs1 cs2 : List Value} {p : List UInt8} (h : Bp W X e1 e2 pb cs1 cs2 p) (g o : Nat) (vs : List Value) (h1 : e1 ≠ g) (h2 : e2 ≠ g) (h3 : pb ≠ g) (h4 : W.heap.size ≤ g) : Bp W (X.setCells g o vs) e1 e2 pb cs1 cs2 p := by
  have hs : (X.setCells g o vs).heap.size = X.heap.size := heap_size_setCells _ _ _ _
  exact ⟨⟨h.bx.b1.of_block (setCells_block _ _ _ _ _ h1) (by rw [hs]; exact h.bx.b1.lt), h.bx.b2.of_block (setCells_block _ _ _ _ _ h2) (by rw [hs]; exact h.bx.b2.lt), h.bx.ne, h.bx.g1, h.bx.g2, set_below h.bx.below g h4 o vs⟩,
    h.pg.of_block6 (setCells_block _ _ _ _ _ h3) (by rw [hs]; exact h.pg.lt), h.n1, h.n2, h.g⟩

/-- Behind region 11. -/
structure WEnd (W Y Z : World) (e1 e2 pb : Nat) (cs1 cs2 : List Value) (p : List UInt8) (V : Value) (n : Nat) (xs : List Value) : Prop where
  bp : Bp W Z e1 e2 pb (cs1.set 3 V) cs2 p
  row : Z.ownsRow Y.heap.size 55 64 V n xs
  old : ∀ k, k < Y.heap.size → k ≠ e1 → Z.heap[k]? = Y.heap[k]?

theorem WEnd.of {W Y X : World} {e1 e2 pb : Nat} {cs1 cs2 : List Value} {p : List UInt8} {V : Value} {n : Nat} {xs : List Value} (h : Bp W Y e1 e2 pb cs1 cs2 p) (hb : Below Y.heap.size Y X) (hr : X.ownsRow Y.heap.size 55 64 V n xs) :
    WEnd W Y (X.setCell ⟨e1, 3, none⟩ V) e1 e2 pb cs1 cs2 p V n xs :=
  ⟨(h.step hb).one 3 (by decide) V, row_set_far hr e1 3 [V] (row_out hr h.bx.b1.lt), fun k hk hne => (Below.heap_setCell X ⟨e1, 3, none⟩ V k hne).trans (hb.block k hk)⟩

theorem wr_final {W Z : World} {B : Nat} {a b c d b' c' d' : Value} {su se : List (List UInt8)} {at_ : List Int} {wh : List (List UInt8)} {dn : Bool} {f : Int} (h : RfAt W B a b c d ⟨su, se, at_, wh, dn, f⟩) (hB : B ≤ W.heap.size) (hb : Below W.heap.size W Z) (k : Nat) (p : List UInt8) (hp : p.length = 64) {N : Nat} (hN : W.heap.size ≤ N)
    (hS : Z.ownsRow N 55 64 b' se.length (psC (se.set k p))) (hA : Z.ownsRow N 3 1 c' (at_.length + 1) (inC at_ ++ [.int .i64 (k : Int)])) (hW : Z.ownsRow N 55 64 d' (wh.length + 1) (psC wh ++ p.map bv)) (hfew : at_.length < 1000 ∧ wh.length < 1000) (dn2 : Bool) (f2 : Int) :
    RfAt Z B a b' c' d' ⟨su, se.set k p, at_ ++ [(k : Int)], wh ++ [p], dn2, f2⟩ ∧ ∀ x ∈ rv4 a b' c' d', x ∈ rv4 a b c d ∨ W.heap.size ≤ x := by
  refine ⟨⟨row_below h.sure hb, ?_, ?_, ?_, h.s64, fun q hq => ?_, fun q hq => ?_, ⟨h.few.1, by rw [List.length_set]; exact h.few.2.1, by rw [List.length_append]; exact hfew.1, by rw [List.length_append]; exact hfew.2⟩⟩, fun x hx => ?_⟩
  · have := row_base hS (Nat.le_trans hB hN)
    have e9 : (se.set k p).length = se.length := List.length_set
    rwa [← e9] at this
  · have := row_base hA (Nat.le_trans hB hN)
    show Z.ownsRow B 3 1 c' (at_ ++ [(k : Int)]).length (inC (at_ ++ [(k : Int)]))
    rw [List.length_append, inC, List.map_append]
    exact this
  · have := row_base hW (Nat.le_trans hB hN)
    show Z.ownsRow B 55 64 d' (wh ++ [p]).length (psC (wh ++ [p]))
    rw [List.length_append, psC_app, psC_one]
    exact this
  · rcases List.mem_or_eq_of_mem_set hq with hq | rfl
    · exact h.n64 q hq
    · exact hp
  · rcases List.mem_append.1 hq with hq | hq
    · exact h.w64 q hq
    · rw [List.mem_singleton.1 hq]; exact hp
  · rcases rv4_mem.1 hx with e | e | e | e
    · exact .inl (rv4_mem.2 (.inl e))
    · exact .inr (Nat.le_trans hN (ownsRow_ge hS e).1)
    · exact .inr (Nat.le_trans hN (ownsRow_ge hA e).1)
    · exact .inr (Nat.le_trans hN (ownsRow_ge hW e).1)

set_option maxRecDepth 100000 in
set_option maxHeartbeats 8000000 in
theorem rwrite {W : World} {B : Nat} {a b c d : Value} {r : Rf} (h : RfAt W B a b c d r) (hB : B ≤ W.heap.size) (hf : -1 ≤ r.fuse ∧ r.fuse ≤ 9223372036854775807) (i : Int) (p : List UInt8) (hp : p.length = 64) (hs : r.seen.length = r.sure.length) (hfew : r.at_.length < 1000 ∧ r.what.length < 1000) :
    Calls Try.prog 70 #[rfV a b c d r, .int .i64 i, .agg (p.map bv).toArray] W fun e w' => RfAns W B a b c d (r.write i p) e w' := by
  have HR := Lib.hid h
  have HP := Lib.hid hp
  have HS := Lib.hid hs
  have HFW := Lib.hid hfew
  obtain ⟨a1, a3, rfl⟩ := ownsRow_form h.sure
  obtain ⟨b1, b3, rfl⟩ := ownsRow_form h.seen
  obtain ⟨c1, c3, rfl⟩ := ownsRow_form h.at_
  obtain ⟨d1, d3, rfl⟩ := ownsRow_form h.what
  clear h hp hs hfew
  obtain ⟨su, se, at_, wh, dn, f⟩ := r
  have HF := Lib.hid hf
  unfold rfV
  dsimp only at hf ⊢
  have FU := Lib.hid (fun X => rfused (a1 := a1) (a2 := su.length) (a3 := a3) (b1 := b1) (b2 := se.length) (b3 := b3) (c1 := c1) (c2 := at_.length) (c3 := c3) (d1 := d1) (d2 := wh.length) (d3 := d3) false f HF.out X)
  clear hf
  cases dn with
  | true =>
    have e : Rf.write ⟨su, se, at_, wh, true, f⟩ i p = (⟨su, se, at_, wh, true, f⟩, 7) := if_pos rfl
    rw [e]
    clear e
    go_enter Try.func70, Try.ntmps70
    go_upto_region 1 with fail
    refine wp_gate (fun X => Bp W X W.heap.size (W.heap.size + 1 + 1) (W.heap.size + 1) [.slice a1 su.length a3, .slice b1 se.length b3, .slice c1 at_.length c3, .slice d1 wh.length d3, .bool true, .int .i64 f] zero6 p) (Bp.start W [.slice a1 su.length a3, .slice b1 se.length b3, .slice c1 at_.length c3, .slice d1 wh.length d3, .bool true, .int .i64 f] rfl p HP.out) ?_
    intro X0 hX
    have HX := Lib.hid hX
    have c4 := hX.bx.b1.cell 4 _ rfl
    clear hX
    go_wp2_with (first
      | (refine wpList_load102 (e1 := W.heap.size) (cs1 := [.slice a1 su.length a3, .slice b1 se.length b3, .slice c1 at_.length c3, .slice d1 wh.length d3, .bool true, .int .i64 f]) (by rfl) (.tmp 3) (by rfl) ?_ ?_ ?_; exact HX.out.bx.b1; rfl)
      | (refine wpList_store102 (e1 := W.heap.size + 1 + 1) (cs1 := zero6) (by rfl) (.tmp 6) (.tmp 11) (by rfl) [.slice a1 su.length a3, .slice b1 se.length b3, .slice c1 at_.length c3, .slice d1 wh.length d3, .bool true, .int .i64 f] ?_ ?_ ?_ ?_ ?_ ?_; exact HX.out.bx.b2; rfl; rfl; rfl; simp [Value.oneCell']))
    have HX := Lib.hid (HX.out.set2 [.slice a1 su.length a3, .slice b1 se.length b3, .slice c1 at_.length c3, .slice d1 wh.length d3, .bool true, .int .i64 f] rfl)
    exact bodyPost_ret (results_cell2 (p := 6) (u := 7) (ty := 102) rfl _ _ ⟨W.heap.size + 1 + 1, 0, none⟩ _ _ rfl HX.out.bx.b2.load rfl) rfl ⟨_, _, _, _, rfl, HR.out.below HX.out.bx.below, HX.out.bx.below, fun _ h => .inl h⟩
  | false =>
    by_cases hi : i < 0 ∨ (su.length : Int) ≤ i
    · have e : Rf.write ⟨su, se, at_, wh, false, f⟩ i p = (⟨su, se, at_, wh, false, f⟩, 1) := (if_neg (by simp)).trans (if_pos hi)
      rw [e]
      clear e
      go_enter Try.func70, Try.ntmps70
      go_upto_region 1 with fail
      refine wp_gate (fun X => Bp W X W.heap.size (W.heap.size + 1 + 1) (W.heap.size + 1) [.slice a1 su.length a3, .slice b1 se.length b3, .slice c1 at_.length c3, .slice d1 wh.length d3, .bool false, .int .i64 f] zero6 p) (Bp.start W [.slice a1 su.length a3, .slice b1 se.length b3, .slice c1 at_.length c3, .slice d1 wh.length d3, .bool false, .int .i64 f] rfl p HP.out) ?_
      intro X0 hX
      have HX := Lib.hid hX
      have c4 := hX.bx.b1.cell 4 _ rfl
      clear hX
      have c0 := HX.out.bx.b1.cell 0 _ rfl
      rcases hi with hi | hi
      · go_wp2_with (first
          | (refine wpList_load102 (e1 := W.heap.size) (cs1 := [.slice a1 su.length a3, .slice b1 se.length b3, .slice c1 at_.length c3, .slice d1 wh.length d3, .bool false, .int .i64 f]) (by rfl) (.tmp 3) (by rfl) ?_ ?_ ?_; exact HX.out.bx.b1; rfl)
          | (refine wpList_store102 (e1 := W.heap.size + 1 + 1) (cs1 := zero6) (by rfl) (.tmp 6) (.tmp 21) (by rfl) [.slice a1 su.length a3, .slice b1 se.length b3, .slice c1 at_.length c3, .slice d1 wh.length d3, .bool false, .int .i64 f] ?_ ?_ ?_ ?_ ?_ ?_; exact HX.out.bx.b2; rfl; rfl; rfl; simp [Value.oneCell']))
        have HX := Lib.hid (HX.out.set2 [.slice a1 su.length a3, .slice b1 se.length b3, .slice c1 at_.length c3, .slice d1 wh.length d3, .bool false, .int .i64 f] rfl)
        exact bodyPost_ret (results_cell2 (p := 6) (u := 7) (ty := 102) rfl _ _ ⟨W.heap.size + 1 + 1, 0, none⟩ _ _ rfl HX.out.bx.b2.load rfl) rfl ⟨_, _, _, _, rfl, HR.out.below HX.out.bx.below, HX.out.bx.below, fun _ h => .inl h⟩
      · go_wp2_with (first
          | (refine wpList_load102 (e1 := W.heap.size) (cs1 := [.slice a1 su.length a3, .slice b1 se.length b3, .slice c1 at_.length c3, .slice d1 wh.length d3, .bool false, .int .i64 f]) (by rfl) (.tmp 3) (by rfl) ?_ ?_ ?_; exact HX.out.bx.b1; rfl)
          | (refine wpList_store102 (e1 := W.heap.size + 1 + 1) (cs1 := zero6) (by rfl) (.tmp 6) (.tmp 21) (by rfl) [.slice a1 su.length a3, .slice b1 se.length b3, .slice c1 at_.length c3, .slice d1 wh.length d3, .bool false, .int .i64 f] ?_ ?_ ?_ ?_ ?_ ?_; exact HX.out.bx.b2; rfl; rfl; rfl; simp [Value.oneCell']))
        have HX := Lib.hid (HX.out.set2 [.slice a1 su.length a3, .slice b1 se.length b3, .slice c1 at_.length c3, .slice d1 wh.length d3, .bool false, .int .i64 f] rfl)
        exact bodyPost_ret (results_cell2 (p := 6) (u := 7) (ty := 102) rfl _ _ ⟨W.heap.size + 1 + 1, 0, none⟩ _ _ rfl HX.out.bx.b2.load rfl) rfl ⟨_, _, _, _, rfl, HR.out.below HX.out.bx.below, HX.out.bx.below, fun _ h => .inl h⟩
    · obtain ⟨hi0, hi1⟩ : 0 ≤ i ∧ i < (su.length : Int) := by omega
      obtain ⟨k, rfl⟩ : ∃ k : Nat, i = (k : Int) := ⟨i.toNat, by omega⟩
      by_cases hf0 : f = 0
      · subst hf0
        have e : Rf.write ⟨su, se, at_, wh, false, 0⟩ (k : Int) p = (⟨su, se, at_, wh, false, 0⟩, 6) := (if_neg (by simp)).trans ((if_neg hi).trans rfl)
        rw [e]
        clear e
        go_enter Try.func70, Try.ntmps70
        go_upto_region 1 with fail
        refine wp_gate (fun X => Bp W X W.heap.size (W.heap.size + 1 + 1) (W.heap.size + 1) [.slice a1 su.length a3, .slice b1 se.length b3, .slice c1 at_.length c3, .slice d1 wh.length d3, .bool false, .int .i64 0] zero6 p) (Bp.start W [.slice a1 su.length a3, .slice b1 se.length b3, .slice c1 at_.length c3, .slice d1 wh.length d3, .bool false, .int .i64 0] rfl p HP.out) ?_
        intro X0 hX
        have HX := Lib.hid hX
        have c4 := hX.bx.b1.cell 4 _ rfl
        clear hX
        have c0 := HX.out.bx.b1.cell 0 _ rfl
        go_wp2_with (refine wpList_load102 (e1 := W.heap.size) (cs1 := [.slice a1 su.length a3, .slice b1 se.length b3, .slice c1 at_.length c3, .slice d1 wh.length d3, .bool false, .int .i64 0]) (by rfl) (.tmp 3) (by rfl) ?_ ?_ ?_; exact HX.out.bx.b1; rfl)
        refine (FU.out _).mono ?_
        rintro q w1 ⟨rfl, hb⟩
        have HX := Lib.hid (HX.out.step hb)
        clear hb c0 c4
        rw [show fuseDn 0 = 0 from rfl]
        go_upto_region 6 with (refine wpList_store102 (e1 := W.heap.size) (cs1 := [.slice a1 su.length a3, .slice b1 se.length b3, .slice c1 at_.length c3, .slice d1 wh.length d3, .bool false, .int .i64 0]) (by rfl) (.tmp 3) (.tmp 25) (by rfl) [.slice a1 su.length a3, .slice b1 se.length b3, .slice c1 at_.length c3, .slice d1 wh.length d3, .bool false, .int .i64 0] ?_ ?_ ?_ ?_ ?_ ?_; exact HX.out.bx.b1; rfl; rfl; rfl; simp [Value.oneCell'])
        have HX := Lib.hid (HX.out.set1 [.slice a1 su.length a3, .slice b1 se.length b3, .slice c1 at_.length c3, .slice d1 wh.length d3, .bool false, .int .i64 0] rfl)
        change Code.wp _ _ _ _ (w1.setCells W.heap.size 0 [.slice a1 su.length a3, .slice b1 se.length b3, .slice c1 at_.length c3, .slice d1 wh.length d3, .bool false, .int .i64 0])
        generalize w1.setCells W.heap.size 0 [.slice a1 su.length a3, .slice b1 se.length b3, .slice c1 at_.length c3, .slice d1 wh.length d3, .bool false, .int .i64 0] = X1 at *
        go_wp2_with (first
          | (refine wpList_load102 (e1 := W.heap.size) (cs1 := [.slice a1 su.length a3, .slice b1 se.length b3, .slice c1 at_.length c3, .slice d1 wh.length d3, .bool false, .int .i64 0]) (by rfl) (.tmp 3) (by rfl) ?_ ?_ ?_; exact HX.out.bx.b1; rfl)
          | (refine wpList_store102 (e1 := W.heap.size + 1 + 1) (cs1 := zero6) (by rfl) (.tmp 6) (.tmp 29) (by rfl) [.slice a1 su.length a3, .slice b1 se.length b3, .slice c1 at_.length c3, .slice d1 wh.length d3, .bool false, .int .i64 0] ?_ ?_ ?_ ?_ ?_ ?_; exact HX.out.bx.b2; rfl; rfl; rfl; simp [Value.oneCell']))
        have HX := Lib.hid (HX.out.set2 [.slice a1 su.length a3, .slice b1 se.length b3, .slice c1 at_.length c3, .slice d1 wh.length d3, .bool false, .int .i64 0] rfl)
        exact bodyPost_ret (results_cell2 (p := 6) (u := 7) (ty := 102) rfl _ _ ⟨W.heap.size + 1 + 1, 0, none⟩ _ _ rfl HX.out.bx.b2.load rfl) rfl ⟨_, _, _, _, rfl, HR.out.below HX.out.bx.below, HX.out.bx.below, fun _ h => .inl h⟩
      · have e : Rf.write ⟨su, se, at_, wh, false, f⟩ (k : Int) p = (⟨su, se.set k p, at_ ++ [(k : Int)], wh ++ [p], false, fuseDn f⟩, 0) := (if_neg (by simp)).trans ((if_neg hi).trans (if_neg hf0))
        rw [e]
        clear e
        have h0c : (f != 0) = true := by rw [bne_iff_ne]; exact hf0
        rw [h0c] at FU
        clear h0c
        obtain ⟨f2, hf2⟩ : ∃ f2, fuseDn f = f2 := ⟨_, rfl⟩
        rw [hf2] at FU ⊢
        clear hf2
        have hks : k < se.length := by have h1 : se.length = su.length := HS.out; omega
        have HK := Lib.hid hks
        have hk0 : (0 : Int) ≤ (k : Int) := by omega
        go_enter Try.func70, Try.ntmps70
        go_upto_region 1 with fail
        refine wp_gate (fun X => Bp W X W.heap.size (W.heap.size + 1 + 1) (W.heap.size + 1) [.slice a1 su.length a3, .slice b1 se.length b3, .slice c1 at_.length c3, .slice d1 wh.length d3, .bool false, .int .i64 f] zero6 p) (Bp.start W [.slice a1 su.length a3, .slice b1 se.length b3, .slice c1 at_.length c3, .slice d1 wh.length d3, .bool false, .int .i64 f] rfl p HP.out) ?_
        intro X0 hX
        have HX := Lib.hid hX
        have c4 := hX.bx.b1.cell 4 _ rfl
        have c0 := hX.bx.b1.cell 0 _ rfl
        clear hX
        go_wp2_with (refine wpList_load102 (e1 := W.heap.size) (cs1 := [.slice a1 su.length a3, .slice b1 se.length b3, .slice c1 at_.length c3, .slice d1 wh.length d3, .bool false, .int .i64 f]) (by rfl) (.tmp 3) (by rfl) ?_ ?_ ?_; exact HX.out.bx.b1; rfl)
        refine (FU.out _).mono ?_
        rintro q w1 ⟨rfl, hb⟩
        have HX := Lib.hid (HX.out.step hb)
        clear hb c0 c4 FU
        go_upto_region 6 with (refine wpList_store102 (e1 := W.heap.size) (cs1 := [.slice a1 su.length a3, .slice b1 se.length b3, .slice c1 at_.length c3, .slice d1 wh.length d3, .bool false, .int .i64 f]) (by rfl) (.tmp 3) (.tmp 25) (by rfl) [.slice a1 su.length a3, .slice b1 se.length b3, .slice c1 at_.length c3, .slice d1 wh.length d3, .bool false, .int .i64 f2] ?_ ?_ ?_ ?_ ?_ ?_; exact HX.out.bx.b1; rfl; rfl; rfl; simp [Value.oneCell'])
        have HX := Lib.hid (HX.out.set1 [.slice a1 su.length a3, .slice b1 se.length b3, .slice c1 at_.length c3, .slice d1 wh.length d3, .bool false, .int .i64 f2] rfl)
        change Code.wp _ _ _ _ (w1.setCells W.heap.size 0 [.slice a1 su.length a3, .slice b1 se.length b3, .slice c1 at_.length c3, .slice d1 wh.length d3, .bool false, .int .i64 f2])
        generalize w1.setCells W.heap.size 0 [.slice a1 su.length a3, .slice b1 se.length b3, .slice c1 at_.length c3, .slice d1 wh.length d3, .bool false, .int .i64 f2] = X1 at *
        go_upto_region 8 with fail
        obtain ⟨iT, hE99⟩ := el99
        have HL := Lib.hid hE99
        clear hE99
        have HLT := Lib.hid (And.intro HX.out.bx.b1.lt (And.intro HX.out.pg.lt HX.out.bx.b2.lt))
        have HBW := Lib.hid HX.out.bx.below.size
        have HE0 := Lib.hid (no_row X1 X1.heap.size (Nat.le_refl _) 55 64)
        have HA1 := Lib.hid (show Below X1.heap.size X1 (X1.alloc (.cells #[] 55)) from (Below.refl _ _).alloc (Nat.le_refl _) _)
        have HSR := Lib.hid (rowSrc_row (row_below HR.out.seen (HX.out.step HA1.out).bx.below) (psC_cell _))
        have HN : Hid (se.length ≤ 1000) := Lib.hid HR.out.few.2.1
        have HN0 : Hid (0 + se.length ≤ 100000) := Lib.hid (by have := HN.out; omega)
        have c1' : (X1.alloc (.cells #[] 55)).cell? ⟨W.heap.size, 1, none⟩ = some (.slice b1 se.length b3) := (HX.out.step HA1.out).bx.b1.cell 1 _ rfl
        iterate 10 (first | go_values | go_skip | go_guarded | go_step)
        refine wpList_app_row (t := 99) (e := 55) (size := 64) (bytes := 64) (base := X1.heap.size) HL.out (by rfl) (.tmp 30) (.tmp 32) (by rfl) HE0.out HSR.out (by rfl) (by rfl) HN0.out (by decide) HA1.out.size ?_
        intro g3 cap3 w3 ho hg hl
        simp only [Nat.zero_add] at ho ⊢
        rw [List.nil_append] at ho
        have HX := Lib.hid (HX.out.step (row_grown HA1.out hg (Nat.le_refl _) (Nat.le_refl _)))
        have HRW := Lib.hid ho
        have qc1 := HX.out.bx.b1.cell 1 _ rfl
        have qf1 := HX.out.bx.b1.fz 1 (by decide)
        clear ho hg hl c1' HSR HE0
        go_upto_region 9 with fail
        have HX := Lib.hid (show Bp W (w3.setCell ⟨W.heap.size, 1, none⟩ (.slice (some ⟨g3, 0, none⟩) se.length cap3)) W.heap.size (W.heap.size + 1 + 1) (W.heap.size + 1) [.slice a1 su.length a3, .slice (some ⟨g3, 0, none⟩) se.length cap3, .slice c1 at_.length c3, .slice d1 wh.length d3, .bool false, .int .i64 f2] zero6 p from HX.out.one 1 (by decide) (.slice (some ⟨g3, 0, none⟩) se.length cap3))
        have HRW := Lib.hid (show (w3.setCell ⟨W.heap.size, 1, none⟩ (.slice (some ⟨g3, 0, none⟩) se.length cap3)).ownsRow _ _ _ _ _ _ from row_set_far HRW.out W.heap.size 1 [.slice (some ⟨g3, 0, none⟩) se.length cap3] (row_out HRW.out HLT.out.1))
        clear qc1 qf1
        change Code.wp _ _ _ _ (w3.setCell ⟨W.heap.size, 1, none⟩ (.slice (some ⟨g3, 0, none⟩) se.length cap3))
        generalize w3.setCell ⟨W.heap.size, 1, none⟩ (.slice (some ⟨g3, 0, none⟩) se.length cap3) = X4 at *
        have qc1 := HX.out.bx.b1.cell 1 _ rfl
        have TH := Lib.hid (row_set HRW.out HR.out.n64 rfl k HK.out p HP.out).2
        have HG3 : Hid (X1.heap.size ≤ g3) := Lib.hid (ownsRow_ge HRW.out (by rfl)).1
        go_upto_region 10 with (first
          | (refine wpList_load55 (by rfl) (.tmp 5) (by rfl) (W.heap.size + 1) (by rfl) p ?_ ?_; exact HX.out.pg)
          | (refine wpList_store55k (by rfl) (.tmp 39) (.tmp 38) (by rfl) g3 (k * 64) (by rfl) p (by rfl) HP.out TH.out ?_))
        have HX := Lib.hid (HX.out.far g3 (k * 64) (p.map bv) (by have := HG3.out; have := HLT.out.1; omega) (by have := HG3.out; have := HLT.out.2.2; omega) (by have := HG3.out; have := HLT.out.2.1; omega) (Nat.le_trans HBW.out HG3.out))
        have HRW := Lib.hid (row_set HRW.out HR.out.n64 rfl k HK.out p HP.out).1
        clear qc1 TH
        change Code.wp _ _ _ _ (X4.setCells g3 (k * 64) (p.map bv))
        generalize X4.setCells g3 (k * 64) (p.map bv) = X5 at *
        obtain ⟨iI, hE100⟩ := el100
        have HLI := Lib.hid hE100
        clear hE100
        have HB5 : Hid (X1.heap.size ≤ X5.heap.size) := Lib.hid (by have := ownsRow_ge HRW.out (by rfl); omega)
        have HE0 := Lib.hid (no_row X5 X5.heap.size (Nat.le_refl _) 3 1)
        have HA5 := Lib.hid (show Below X5.heap.size X5 (X5.alloc (.cells #[] 3)) from (Below.refl _ _).alloc (Nat.le_refl _) _)
        have HSR := Lib.hid (rowSrc_row (row_below HR.out.at_ (HX.out.step HA5.out).bx.below) (inC_cell _))
        have HNA : Hid (0 + at_.length ≤ 100000) := Lib.hid (by have : at_.length < 1000 := HFW.out.1; omega)
        have qc2 : (X5.alloc (.cells #[] 3)).cell? ⟨W.heap.size, 2, none⟩ = some (.slice c1 at_.length c3) := (HX.out.step HA5.out).bx.b1.cell 2 _ rfl
        iterate 10 (first | go_values | go_skip | go_guarded | go_step)
        refine wpList_app_row (t := 100) (e := 3) (size := 1) (bytes := 8) (base := X5.heap.size) HLI.out (by rfl) (.tmp 40) (.tmp 42) (by rfl) HE0.out HSR.out (by rfl) (by rfl) HNA.out (by decide) HA5.out.size ?_
        intro g4 cap4 w6 ho hg hl
        simp only [Nat.zero_add] at ho ⊢
        rw [List.nil_append] at ho
        have HB6 := Lib.hid (row_grown HA5.out hg (Nat.le_refl _) (Nat.le_refl _))
        have HA4 := Lib.hid (row_more ho (.cells #[.int .i64 (k : Int)] 3))
        have HA6 := Lib.hid (HB6.out.alloc HB6.out.size (.cells #[.int .i64 (k : Int)] 3))
        have HSR2 := Lib.hid (int_src (W := w6.alloc (.cells #[.int .i64 (k : Int)] 3)) (b := w6.heap.size) (x := (k : Int)) (by rw [World.cell?_alloc_new]; rfl))
        have HNA2 : Hid (at_.length + 1 ≤ 100000) := Lib.hid (by have : at_.length < 1000 := HFW.out.1; omega)
        clear ho hg hl qc2 HSR HE0
        iterate 6 (first | go_values | go_skip | go_guarded | go_step)
        refine wpList_app_row (t := 100) (e := 3) (size := 1) (bytes := 8) (base := X5.heap.size) HLI.out (by rfl) (.tmp 43) (.tmp 45) (by rfl) HA4.out HSR2.out (by rfl) (by rfl) HNA2.out (by decide) HA6.out.size ?_
        intro g5 cap5 w7 ho hg hl
        have HB7 := Lib.hid (row_grown HA6.out hg (ownsRow_ge HA4.out (by rfl)).1 (Nat.le_refl _))
        have HX := Lib.hid (HX.out.step HB7.out)
        have HRW := Lib.hid (row_below HRW.out HB7.out)
        have HRA := Lib.hid (row_base ho HB5.out)
        have qc2 := HX.out.bx.b1.cell 2 _ rfl
        have qf2 := HX.out.bx.b1.fz 2 (by decide)
        clear ho hg hl HSR2 HA4 HA5 HA6 HB6 HB7
        go_upto_region 11 with fail
        have HX := Lib.hid (show Bp W (w7.setCell ⟨W.heap.size, 2, none⟩ (.slice (some ⟨g5, 0, none⟩) (at_.length + 1) cap5)) W.heap.size (W.heap.size + 1 + 1) (W.heap.size + 1) [.slice a1 su.length a3, .slice (some ⟨g3, 0, none⟩) se.length cap3, .slice (some ⟨g5, 0, none⟩) (at_.length + 1) cap5, .slice d1 wh.length d3, .bool false, .int .i64 f2] zero6 p from HX.out.one 2 (by decide) (.slice (some ⟨g5, 0, none⟩) (at_.length + 1) cap5))
        have HRW := Lib.hid (show (w7.setCell ⟨W.heap.size, 2, none⟩ (.slice (some ⟨g5, 0, none⟩) (at_.length + 1) cap5)).ownsRow _ _ _ _ _ _ from row_set_far HRW.out W.heap.size 2 [.slice (some ⟨g5, 0, none⟩) (at_.length + 1) cap5] (row_out HRW.out HLT.out.1))
        have HRA := Lib.hid (show (w7.setCell ⟨W.heap.size, 2, none⟩ (.slice (some ⟨g5, 0, none⟩) (at_.length + 1) cap5)).ownsRow _ _ _ _ _ _ from row_set_far HRA.out W.heap.size 2 [.slice (some ⟨g5, 0, none⟩) (at_.length + 1) cap5] (row_out HRA.out HLT.out.1))
        clear qc2 qf2
        change Code.wp _ _ _ _ (w7.setCell ⟨W.heap.size, 2, none⟩ (.slice (some ⟨g5, 0, none⟩) (at_.length + 1) cap5))
        generalize w7.setCell ⟨W.heap.size, 2, none⟩ (.slice (some ⟨g5, 0, none⟩) (at_.length + 1) cap5) = Y at *
        have HN1 : Hid (0 + wh.length ≤ 100000) := Lib.hid (by have : wh.length < 1000 := HFW.out.2; omega)
        have HN2 : Hid (wh.length + 1 ≤ 100000) := Lib.hid (by have : wh.length < 1000 := HFW.out.2; omega)
        have HB1Y : Hid (X1.heap.size ≤ Y.heap.size) := Lib.hid (by have := ownsRow_ge HRW.out (by rfl); omega)
        refine wp_region_any (by kernel_rfl) ?_
        change wpAny _ _ _ _ _ _ _ Y.drew
        have HB0 := Lib.hid (show Below Y.heap.size Y Y.drew from (Below.refl _ _).drew)
        generalize Y.drew = X0 at *
        refine wpAny_take (i := 1) (v := .pointer (some ⟨W.heap.size, 3, none⟩)) rfl (by kernel_rfl) (by kernel_rfl) (by kernel_rfl) (fun _ _ _ h => h) (Or.inl ⟨by rfl, by intro w; go_simp⟩) ?_
        simp only [Act.put, List.setIfInBounds_toArray]
        refine wpAny_ready (rs := [0, 2, 4]) (by kernel_rfl) (by simp) ?_
        refine AllReady.cons rfl (fun K hK => ?_) (AllReady.cons rfl (fun K hK => ?_) (AllReady.cons rfl (fun K hK => ?_) AllReady.nil))
        · go_simp
          refine hK _ _ ?_
          clear hK K
          have HE := Lib.hid (no_row X0 Y.heap.size HB0.out.size 55 64)
          have HB1 := Lib.hid (HB0.out.alloc HB0.out.size (.cells #[] 55))
          generalize X0.heap.size = e0 at *
          generalize X0.alloc (.cells #[] 55) = X1 at *
          refine wpAny_ready (rs := [2, 4]) (by kernel_rfl) (by simp) ?_
          refine AllReady.cons rfl (fun K hK => ?_) (AllReady.cons rfl (fun K hK => ?_) AllReady.nil)
          · have c2 : X1.cell? ⟨W.heap.size, 3, none⟩ = some (.slice d1 wh.length d3) := (HX.out.step HB1.out).bx.b1.cell 3 _ rfl
            go_simp
            refine hK _ _ ?_
            clear hK K c2
            refine wpAny_ready (rs := [3, 4]) (by kernel_rfl) (by simp) ?_
            refine AllReady.cons rfl (fun K hK => ?_) (AllReady.cons rfl (fun K hK => ?_) AllReady.nil)
            · rw [if_pos (by rfl)]
              refine wp_app_row HL.out _ _ (by rfl) HE.out (rowSrc_row (row_below (row_below HR.out.what HX.out.bx.below) HB1.out) (psC_cell _)) (by rfl) (by rfl) HN1.out (by decide) HB1.out.size ?_
              intro g1 cap1 X2 ho hg hl
              simp only [Nat.zero_add] at ho ⊢
              rw [List.nil_append] at ho
              simp only [Act.put, List.setIfInBounds_toArray]
              refine hK _ _ ?_
              clear hK K
              have HB2 := Lib.hid (row_grown HB1.out hg (ownsRow_ge HE.out (by rfl)).1 (Nat.le_refl _))
              have H51 := Lib.hid ho
              clear ho hg hl HE
              refine wpAny_ready (rs := [4]) (by kernel_rfl) (by simp) ?_
              refine AllReady.cons rfl (fun K hK => ?_) AllReady.nil
              rw [if_pos (by rfl)]
              refine wp_load_mid 55 _ (by rfl) (W.heap.size + 1) 0 (by rfl) (p.map bv) _ (HX.out.step HB2.out).pg.range Try.underlying55 rfl (by rw [info55, List.length_map, HP.out]) ?_
              simp only [Act.put]
              refine hK _ _ ?_
              clear hK K
              refine wpAny_ready (rs := [5]) (by kernel_rfl) (by simp) ?_
              refine AllReady.cons rfl (fun K hK => ?_) AllReady.nil
              rw [if_pos (by rfl)]
              refine wp_one99 _ (by rfl) p HP.out (by rfl) ?_
              simp only [Act.put]
              refine hK _ _ ?_
              clear hK K
              have HN := Lib.hid (Buf.new X2 p (p.map bv).toArray 55 rfl HP.out)
              have H51 := Lib.hid (row_more H51.out (.cells (p.map bv).toArray 55))
              have HB3 := Lib.hid (HB2.out.alloc HB2.out.size (.cells (p.map bv).toArray 55))
              generalize X2.heap.size = b5 at *
              generalize X2.alloc (.cells (p.map bv).toArray 55) = X3 at *
              refine wpAny_ready (rs := [6]) (by kernel_rfl) (by simp) ?_
              refine AllReady.cons rfl (fun K hK => ?_) AllReady.nil
              rw [if_pos (by rfl)]
              refine wp_app_row HL.out _ _ (by rfl) H51.out (buf_src HN.out) (by rfl) (by rfl) HN2.out (by decide) HB3.out.size ?_
              intro g2 cap2 X4 ho hg hl
              simp only [Act.put]
              refine hK _ _ ?_
              clear hK K
              have HB4 := Lib.hid (row_grown HB3.out hg (ownsRow_ge H51.out (by rfl)).1 (Nat.le_refl _))
              have H54 := Lib.hid ho
              clear ho hg hl H51 HN
              refine wpAny_ready (rs := [7]) (by kernel_rfl) (by simp) ?_
              refine AllReady.cons rfl (fun K hK => ?_) AllReady.nil
              go_simp
              refine hK _ _ ?_
              clear hK K
              refine wpAny_ready (rs := [8]) (by kernel_rfl) (by simp) ?_
              refine AllReady.cons rfl (fun K hK => ?_) AllReady.nil
              have c3 := (HX.out.step HB4.out).bx.b1.cell 3 _ rfl
              have f3 := (HX.out.step HB4.out).bx.b1.fz 3 (by decide)
              go_simp
              refine hK _ _ ?_
              clear hK K c3 f3
              refine wpAny_done (by kernel_rfl) ?_ _
              have HZ := Lib.hid (WEnd.of HX.out HB4.out H54.out)
              generalize X4.setCell ⟨W.heap.size, 3, none⟩ (.slice (some ⟨g2, 0, none⟩) (wh.length + 1) cap2) = Z at *
              have HX := Lib.hid (show Bp W Z W.heap.size (W.heap.size + 1 + 1) (W.heap.size + 1) [.slice a1 su.length a3, .slice (some ⟨g3, 0, none⟩) se.length cap3, .slice (some ⟨g5, 0, none⟩) (at_.length + 1) cap5, .slice (some ⟨g2, 0, none⟩) (wh.length + 1) cap2, .bool false, .int .i64 f2] zero6 p from HZ.out.bp)
              have HS2 := Lib.hid (ownsRow_of_block HRW.out (fun g hg => HZ.out.old g (ownsRow_ge HRW.out hg).2 (fun e => row_out HRW.out HLT.out.1 (e ▸ hg))))
              have HA2 := Lib.hid (ownsRow_of_block HRA.out (fun g hg => HZ.out.old g (ownsRow_ge HRA.out hg).2 (fun e => row_out HRA.out HLT.out.1 (e ▸ hg))))
              have HW2 := Lib.hid (row_base HZ.out.row HB1Y.out)
              go_wp2_with (first
                | (refine wpList_load102 (e1 := W.heap.size) (cs1 := [.slice a1 su.length a3, .slice (some ⟨g3, 0, none⟩) se.length cap3, .slice (some ⟨g5, 0, none⟩) (at_.length + 1) cap5, .slice (some ⟨g2, 0, none⟩) (wh.length + 1) cap2, .bool false, .int .i64 f2]) (by rfl) (.tmp 3) (by rfl) ?_ ?_ ?_; exact HX.out.bx.b1; rfl)
                | (refine wpList_store102 (e1 := W.heap.size + 1 + 1) (cs1 := zero6) (by rfl) (.tmp 6) (.tmp 56) (by rfl) [.slice a1 su.length a3, .slice (some ⟨g3, 0, none⟩) se.length cap3, .slice (some ⟨g5, 0, none⟩) (at_.length + 1) cap5, .slice (some ⟨g2, 0, none⟩) (wh.length + 1) cap2, .bool false, .int .i64 f2] ?_ ?_ ?_ ?_ ?_ ?_; exact HX.out.bx.b2; rfl; rfl; rfl; simp [Value.oneCell']))
              have HX := Lib.hid (HX.out.set2 [.slice a1 su.length a3, .slice (some ⟨g3, 0, none⟩) se.length cap3, .slice (some ⟨g5, 0, none⟩) (at_.length + 1) cap5, .slice (some ⟨g2, 0, none⟩) (wh.length + 1) cap2, .bool false, .int .i64 f2] rfl)
              have HFIN := Lib.hid (wr_final HR.out hB HX.out.bx.below k p HP.out HBW.out (row_set_far HS2.out _ _ _ (row_out HS2.out HLT.out.2.2)) (row_set_far HA2.out _ _ _ (row_out HA2.out HLT.out.2.2)) (row_set_far HW2.out _ _ _ (row_out HW2.out HLT.out.2.2)) HFW.out false f2)
              exact bodyPost_ret (results_cell2 (p := 6) (u := 7) (ty := 102) rfl _ _ ⟨W.heap.size + 1 + 1, 0, none⟩ _ _ rfl HX.out.bx.b2.load rfl) rfl ⟨_, _, _, _, rfl, HFIN.out.1, HX.out.bx.below, HFIN.out.2⟩
            · rw [if_pos (by rfl)]
              refine wp_load_mid 55 _ (by rfl) (W.heap.size + 1) 0 (by rfl) (p.map bv) _ (HX.out.step HB1.out).pg.range Try.underlying55 rfl (by rw [info55, List.length_map, HP.out]) ?_
              simp only [Act.put, List.setIfInBounds_toArray]
              refine hK _ _ ?_
              clear hK K
              refine wpAny_ready (rs := [3, 5]) (by kernel_rfl) (by simp) ?_
              refine AllReady.cons rfl (fun K hK => ?_) (AllReady.cons rfl (fun K hK => ?_) AllReady.nil)
              · rw [if_pos (by rfl)]
                refine wp_app_row HL.out _ _ (by rfl) HE.out (rowSrc_row (row_below (row_below HR.out.what HX.out.bx.below) HB1.out) (psC_cell _)) (by rfl) (by rfl) HN1.out (by decide) HB1.out.size ?_
                intro g1 cap1 X2 ho hg hl
                simp only [Nat.zero_add] at ho ⊢
                rw [List.nil_append] at ho
                simp only [Act.put]
                refine hK _ _ ?_
                clear hK K
                have HB2 := Lib.hid (row_grown HB1.out hg (ownsRow_ge HE.out (by rfl)).1 (Nat.le_refl _))
                have H51 := Lib.hid ho
                clear ho hg hl HE
                refine wpAny_ready (rs := [5]) (by kernel_rfl) (by simp) ?_
                refine AllReady.cons rfl (fun K hK => ?_) AllReady.nil
                rw [if_pos (by rfl)]
                refine wp_one99 _ (by rfl) p HP.out (by rfl) ?_
                simp only [Act.put]
                refine hK _ _ ?_
                clear hK K
                have HN := Lib.hid (Buf.new X2 p (p.map bv).toArray 55 rfl HP.out)
                have H51 := Lib.hid (row_more H51.out (.cells (p.map bv).toArray 55))
                have HB3 := Lib.hid (HB2.out.alloc HB2.out.size (.cells (p.map bv).toArray 55))
                generalize X2.heap.size = b5 at *
                generalize X2.alloc (.cells (p.map bv).toArray 55) = X3 at *
                refine wpAny_ready (rs := [6]) (by kernel_rfl) (by simp) ?_
                refine AllReady.cons rfl (fun K hK => ?_) AllReady.nil
                rw [if_pos (by rfl)]
                refine wp_app_row HL.out _ _ (by rfl) H51.out (buf_src HN.out) (by rfl) (by rfl) HN2.out (by decide) HB3.out.size ?_
                intro g2 cap2 X4 ho hg hl
                simp only [Act.put]
                refine hK _ _ ?_
                clear hK K
                have HB4 := Lib.hid (row_grown HB3.out hg (ownsRow_ge H51.out (by rfl)).1 (Nat.le_refl _))
                have H54 := Lib.hid ho
                clear ho hg hl H51 HN
                refine wpAny_ready (rs := [7]) (by kernel_rfl) (by simp) ?_
                refine AllReady.cons rfl (fun K hK => ?_) AllReady.nil
                go_simp
                refine hK _ _ ?_
                clear hK K
                refine wpAny_ready (rs := [8]) (by kernel_rfl) (by simp) ?_
                refine AllReady.cons rfl (fun K hK => ?_) AllReady.nil
                have c3 := (HX.out.step HB4.out).bx.b1.cell 3 _ rfl
                have f3 := (HX.out.step HB4.out).bx.b1.fz 3 (by decide)
                go_simp
                refine hK _ _ ?_
                clear hK K c3 f3
                refine wpAny_done (by kernel_rfl) ?_ _
                have HZ := Lib.hid (WEnd.of HX.out HB4.out H54.out)
                generalize X4.setCell ⟨W.heap.size, 3, none⟩ (.slice (some ⟨g2, 0, none⟩) (wh.length + 1) cap2) = Z at *
                have HX := Lib.hid (show Bp W Z W.heap.size (W.heap.size + 1 + 1) (W.heap.size + 1) [.slice a1 su.length a3, .slice (some ⟨g3, 0, none⟩) se.length cap3, .slice (some ⟨g5, 0, none⟩) (at_.length + 1) cap5, .slice (some ⟨g2, 0, none⟩) (wh.length + 1) cap2, .bool false, .int .i64 f2] zero6 p from HZ.out.bp)
                have HS2 := Lib.hid (ownsRow_of_block HRW.out (fun g hg => HZ.out.old g (ownsRow_ge HRW.out hg).2 (fun e => row_out HRW.out HLT.out.1 (e ▸ hg))))
                have HA2 := Lib.hid (ownsRow_of_block HRA.out (fun g hg => HZ.out.old g (ownsRow_ge HRA.out hg).2 (fun e => row_out HRA.out HLT.out.1 (e ▸ hg))))
                have HW2 := Lib.hid (row_base HZ.out.row HB1Y.out)
                go_wp2_with (first
                  | (refine wpList_load102 (e1 := W.heap.size) (cs1 := [.slice a1 su.length a3, .slice (some ⟨g3, 0, none⟩) se.length cap3, .slice (some ⟨g5, 0, none⟩) (at_.length + 1) cap5, .slice (some ⟨g2, 0, none⟩) (wh.length + 1) cap2, .bool false, .int .i64 f2]) (by rfl) (.tmp 3) (by rfl) ?_ ?_ ?_; exact HX.out.bx.b1; rfl)
                  | (refine wpList_store102 (e1 := W.heap.size + 1 + 1) (cs1 := zero6) (by rfl) (.tmp 6) (.tmp 56) (by rfl) [.slice a1 su.length a3, .slice (some ⟨g3, 0, none⟩) se.length cap3, .slice (some ⟨g5, 0, none⟩) (at_.length + 1) cap5, .slice (some ⟨g2, 0, none⟩) (wh.length + 1) cap2, .bool false, .int .i64 f2] ?_ ?_ ?_ ?_ ?_ ?_; exact HX.out.bx.b2; rfl; rfl; rfl; simp [Value.oneCell']))
                have HX := Lib.hid (HX.out.set2 [.slice a1 su.length a3, .slice (some ⟨g3, 0, none⟩) se.length cap3, .slice (some ⟨g5, 0, none⟩) (at_.length + 1) cap5, .slice (some ⟨g2, 0, none⟩) (wh.length + 1) cap2, .bool false, .int .i64 f2] rfl)
                have HFIN := Lib.hid (wr_final HR.out hB HX.out.bx.below k p HP.out HBW.out (row_set_far HS2.out _ _ _ (row_out HS2.out HLT.out.2.2)) (row_set_far HA2.out _ _ _ (row_out HA2.out HLT.out.2.2)) (row_set_far HW2.out _ _ _ (row_out HW2.out HLT.out.2.2)) HFW.out false f2)
                exact bodyPost_ret (results_cell2 (p := 6) (u := 7) (ty := 102) rfl _ _ ⟨W.heap.size + 1 + 1, 0, none⟩ _ _ rfl HX.out.bx.b2.load rfl) rfl ⟨_, _, _, _, rfl, HFIN.out.1, HX.out.bx.below, HFIN.out.2⟩
              · rw [if_pos (by rfl)]
                refine wp_one99 _ (by rfl) p HP.out (by rfl) ?_
                simp only [Act.put]
                refine hK _ _ ?_
                clear hK K
                have HN := Lib.hid (Buf.new X1 p (p.map bv).toArray 55 rfl HP.out)
                have HNE := Lib.hid (show X1.heap.size ≠ e0 from Nat.ne_of_gt (ownsRow_ge HE.out (by rfl)).2)
                have HE := Lib.hid (row_more HE.out (.cells (p.map bv).toArray 55))
                have HB2 := Lib.hid (HB1.out.alloc HB1.out.size (.cells (p.map bv).toArray 55))
                generalize X1.heap.size = b5 at *
                generalize X1.alloc (.cells (p.map bv).toArray 55) = X2 at *
                refine wpAny_ready (rs := [3]) (by kernel_rfl) (by simp) ?_
                refine AllReady.cons rfl (fun K hK => ?_) AllReady.nil
                rw [if_pos (by rfl)]
                refine wp_app_row HL.out _ _ (by rfl) HE.out (rowSrc_row (row_below (row_below HR.out.what HX.out.bx.below) HB2.out) (psC_cell _)) (by rfl) (by rfl) HN1.out (by decide) HB2.out.size ?_
                intro g1 cap1 X3 ho hg hl
                simp only [Nat.zero_add] at ho ⊢
                rw [List.nil_append] at ho
                simp only [Act.put]
                refine hK _ _ ?_
                clear hK K
                have HB3 := Lib.hid (row_grown HB2.out hg (ownsRow_ge HE.out (by rfl)).1 (Nat.le_refl _))
                have HN := Lib.hid (HN.out.of_block6 (hg.block b5 HN.out.lt (fun e => HNE.out (by injection e))) (Nat.lt_of_lt_of_le HN.out.lt hg.size))
                have H51 := Lib.hid ho
                clear ho hg hl HE
                refine wpAny_ready (rs := [6]) (by kernel_rfl) (by simp) ?_
                refine AllReady.cons rfl (fun K hK => ?_) AllReady.nil
                rw [if_pos (by rfl)]
                refine wp_app_row HL.out _ _ (by rfl) H51.out (buf_src HN.out) (by rfl) (by rfl) HN2.out (by decide) HB3.out.size ?_
                intro g2 cap2 X4 ho hg hl
                simp only [Act.put]
                refine hK _ _ ?_
                clear hK K
                have HB4 := Lib.hid (row_grown HB3.out hg (ownsRow_ge H51.out (by rfl)).1 (Nat.le_refl _))
                have H54 := Lib.hid ho
                clear ho hg hl H51 HN
                refine wpAny_ready (rs := [7]) (by kernel_rfl) (by simp) ?_
                refine AllReady.cons rfl (fun K hK => ?_) AllReady.nil
                go_simp
                refine hK _ _ ?_
                clear hK K
                refine wpAny_ready (rs := [8]) (by kernel_rfl) (by simp) ?_
                refine AllReady.cons rfl (fun K hK => ?_) AllReady.nil
                have c3 := (HX.out.step HB4.out).bx.b1.cell 3 _ rfl
                have f3 := (HX.out.step HB4.out).bx.b1.fz 3 (by decide)
                go_simp
                refine hK _ _ ?_
                clear hK K c3 f3
                refine wpAny_done (by kernel_rfl) ?_ _
                have HZ := Lib.hid (WEnd.of HX.out HB4.out H54.out)
                generalize X4.setCell ⟨W.heap.size, 3, none⟩ (.slice (some ⟨g2, 0, none⟩) (wh.length + 1) cap2) = Z at *
                have HX := Lib.hid (show Bp W Z W.heap.size (W.heap.size + 1 + 1) (W.heap.size + 1) [.slice a1 su.length a3, .slice (some ⟨g3, 0, none⟩) se.length cap3, .slice (some ⟨g5, 0, none⟩) (at_.length + 1) cap5, .slice (some ⟨g2, 0, none⟩) (wh.length + 1) cap2, .bool false, .int .i64 f2] zero6 p from HZ.out.bp)
                have HS2 := Lib.hid (ownsRow_of_block HRW.out (fun g hg => HZ.out.old g (ownsRow_ge HRW.out hg).2 (fun e => row_out HRW.out HLT.out.1 (e ▸ hg))))
                have HA2 := Lib.hid (ownsRow_of_block HRA.out (fun g hg => HZ.out.old g (ownsRow_ge HRA.out hg).2 (fun e => row_out HRA.out HLT.out.1 (e ▸ hg))))
                have HW2 := Lib.hid (row_base HZ.out.row HB1Y.out)
                go_wp2_with (first
                  | (refine wpList_load102 (e1 := W.heap.size) (cs1 := [.slice a1 su.length a3, .slice (some ⟨g3, 0, none⟩) se.length cap3, .slice (some ⟨g5, 0, none⟩) (at_.length + 1) cap5, .slice (some ⟨g2, 0, none⟩) (wh.length + 1) cap2, .bool false, .int .i64 f2]) (by rfl) (.tmp 3) (by rfl) ?_ ?_ ?_; exact HX.out.bx.b1; rfl)
                  | (refine wpList_store102 (e1 := W.heap.size + 1 + 1) (cs1 := zero6) (by rfl) (.tmp 6) (.tmp 56) (by rfl) [.slice a1 su.length a3, .slice (some ⟨g3, 0, none⟩) se.length cap3, .slice (some ⟨g5, 0, none⟩) (at_.length + 1) cap5, .slice (some ⟨g2, 0, none⟩) (wh.length + 1) cap2, .bool false, .int .i64 f2] ?_ ?_ ?_ ?_ ?_ ?_; exact HX.out.bx.b2; rfl; rfl; rfl; simp [Value.oneCell']))
                have HX := Lib.hid (HX.out.set2 [.slice a1 su.length a3, .slice (some ⟨g3, 0, none⟩) se.length cap3, .slice (some ⟨g5, 0, none⟩) (at_.length + 1) cap5, .slice (some ⟨g2, 0, none⟩) (wh.length + 1) cap2, .bool false, .int .i64 f2] rfl)
                have HFIN := Lib.hid (wr_final HR.out hB HX.out.bx.below k p HP.out HBW.out (row_set_far HS2.out _ _ _ (row_out HS2.out HLT.out.2.2)) (row_set_far HA2.out _ _ _ (row_out HA2.out HLT.out.2.2)) (row_set_far HW2.out _ _ _ (row_out HW2.out HLT.out.2.2)) HFW.out false f2)
                exact bodyPost_ret (results_cell2 (p := 6) (u := 7) (ty := 102) rfl _ _ ⟨W.heap.size + 1 + 1, 0, none⟩ _ _ rfl HX.out.bx.b2.load rfl) rfl ⟨_, _, _, _, rfl, HFIN.out.1, HX.out.bx.below, HFIN.out.2⟩
          · rw [if_pos (by rfl)]
            refine wp_load_mid 55 _ (by rfl) (W.heap.size + 1) 0 (by rfl) (p.map bv) _ (HX.out.step HB1.out).pg.range Try.underlying55 rfl (by rw [info55, List.length_map, HP.out]) ?_
            simp only [Act.put, List.setIfInBounds_toArray]
            refine hK _ _ ?_
            clear hK K
            refine wpAny_ready (rs := [2, 5]) (by kernel_rfl) (by simp) ?_
            refine AllReady.cons rfl (fun K hK => ?_) (AllReady.cons rfl (fun K hK => ?_) AllReady.nil)
            · have c2 : X1.cell? ⟨W.heap.size, 3, none⟩ = some (.slice d1 wh.length d3) := (HX.out.step HB1.out).bx.b1.cell 3 _ rfl
              go_simp
              refine hK _ _ ?_
              clear hK K c2
              refine wpAny_ready (rs := [3, 5]) (by kernel_rfl) (by simp) ?_
              refine AllReady.cons rfl (fun K hK => ?_) (AllReady.cons rfl (fun K hK => ?_) AllReady.nil)
              · rw [if_pos (by rfl)]
                refine wp_app_row HL.out _ _ (by rfl) HE.out (rowSrc_row (row_below (row_below HR.out.what HX.out.bx.below) HB1.out) (psC_cell _)) (by rfl) (by rfl) HN1.out (by decide) HB1.out.size ?_
                intro g1 cap1 X2 ho hg hl
                simp only [Nat.zero_add] at ho ⊢
                rw [List.nil_append] at ho
                simp only [Act.put, List.setIfInBounds_toArray]
                refine hK _ _ ?_
                clear hK K
                have HB2 := Lib.hid (row_grown HB1.out hg (ownsRow_ge HE.out (by rfl)).1 (Nat.le_refl _))
                have H51 := Lib.hid ho
                clear ho hg hl HE
                refine wpAny_ready (rs := [5]) (by kernel_rfl) (by simp) ?_
                refine AllReady.cons rfl (fun K hK => ?_) AllReady.nil
                rw [if_pos (by rfl)]
                refine wp_one99 _ (by rfl) p HP.out (by rfl) ?_
                simp only [Act.put]
                refine hK _ _ ?_
                clear hK K
                have HN := Lib.hid (Buf.new X2 p (p.map bv).toArray 55 rfl HP.out)
                have H51 := Lib.hid (row_more H51.out (.cells (p.map bv).toArray 55))
                have HB3 := Lib.hid (HB2.out.alloc HB2.out.size (.cells (p.map bv).toArray 55))
                generalize X2.heap.size = b5 at *
                generalize X2.alloc (.cells (p.map bv).toArray 55) = X3 at *
                refine wpAny_ready (rs := [6]) (by kernel_rfl) (by simp) ?_
                refine AllReady.cons rfl (fun K hK => ?_) AllReady.nil
                rw [if_pos (by rfl)]
                refine wp_app_row HL.out _ _ (by rfl) H51.out (buf_src HN.out) (by rfl) (by rfl) HN2.out (by decide) HB3.out.size ?_
                intro g2 cap2 X4 ho hg hl
                simp only [Act.put]
                refine hK _ _ ?_
                clear hK K
                have HB4 := Lib.hid (row_grown HB3.out hg (ownsRow_ge H51.out (by rfl)).1 (Nat.le_refl _))
                have H54 := Lib.hid ho
                clear ho hg hl H51 HN
                refine wpAny_ready (rs := [7]) (by kernel_rfl) (by simp) ?_
                refine AllReady.cons rfl (fun K hK => ?_) AllReady.nil
                go_simp
                refine hK _ _ ?_
                clear hK K
                refine wpAny_ready (rs := [8]) (by kernel_rfl) (by simp) ?_
                refine AllReady.cons rfl (fun K hK => ?_) AllReady.nil
                have c3 := (HX.out.step HB4.out).bx.b1.cell 3 _ rfl
                have f3 := (HX.out.step HB4.out).bx.b1.fz 3 (by decide)
                go_simp
                refine hK _ _ ?_
                clear hK K c3 f3
                refine wpAny_done (by kernel_rfl) ?_ _
                have HZ := Lib.hid (WEnd.of HX.out HB4.out H54.out)
                generalize X4.setCell ⟨W.heap.size, 3, none⟩ (.slice (some ⟨g2, 0, none⟩) (wh.length + 1) cap2) = Z at *
                have HX := Lib.hid (show Bp W Z W.heap.size (W.heap.size + 1 + 1) (W.heap.size + 1) [.slice a1 su.length a3, .slice (some ⟨g3, 0, none⟩) se.length cap3, .slice (some ⟨g5, 0, none⟩) (at_.length + 1) cap5, .slice (some ⟨g2, 0, none⟩) (wh.length + 1) cap2, .bool false, .int .i64 f2] zero6 p from HZ.out.bp)
                have HS2 := Lib.hid (ownsRow_of_block HRW.out (fun g hg => HZ.out.old g (ownsRow_ge HRW.out hg).2 (fun e => row_out HRW.out HLT.out.1 (e ▸ hg))))
                have HA2 := Lib.hid (ownsRow_of_block HRA.out (fun g hg => HZ.out.old g (ownsRow_ge HRA.out hg).2 (fun e => row_out HRA.out HLT.out.1 (e ▸ hg))))
                have HW2 := Lib.hid (row_base HZ.out.row HB1Y.out)
                go_wp2_with (first
                  | (refine wpList_load102 (e1 := W.heap.size) (cs1 := [.slice a1 su.length a3, .slice (some ⟨g3, 0, none⟩) se.length cap3, .slice (some ⟨g5, 0, none⟩) (at_.length + 1) cap5, .slice (some ⟨g2, 0, none⟩) (wh.length + 1) cap2, .bool false, .int .i64 f2]) (by rfl) (.tmp 3) (by rfl) ?_ ?_ ?_; exact HX.out.bx.b1; rfl)
                  | (refine wpList_store102 (e1 := W.heap.size + 1 + 1) (cs1 := zero6) (by rfl) (.tmp 6) (.tmp 56) (by rfl) [.slice a1 su.length a3, .slice (some ⟨g3, 0, none⟩) se.length cap3, .slice (some ⟨g5, 0, none⟩) (at_.length + 1) cap5, .slice (some ⟨g2, 0, none⟩) (wh.length + 1) cap2, .bool false, .int .i64 f2] ?_ ?_ ?_ ?_ ?_ ?_; exact HX.out.bx.b2; rfl; rfl; rfl; simp [Value.oneCell']))
                have HX := Lib.hid (HX.out.set2 [.slice a1 su.length a3, .slice (some ⟨g3, 0, none⟩) se.length cap3, .slice (some ⟨g5, 0, none⟩) (at_.length + 1) cap5, .slice (some ⟨g2, 0, none⟩) (wh.length + 1) cap2, .bool false, .int .i64 f2] rfl)
                have HFIN := Lib.hid (wr_final HR.out hB HX.out.bx.below k p HP.out HBW.out (row_set_far HS2.out _ _ _ (row_out HS2.out HLT.out.2.2)) (row_set_far HA2.out _ _ _ (row_out HA2.out HLT.out.2.2)) (row_set_far HW2.out _ _ _ (row_out HW2.out HLT.out.2.2)) HFW.out false f2)
                exact bodyPost_ret (results_cell2 (p := 6) (u := 7) (ty := 102) rfl _ _ ⟨W.heap.size + 1 + 1, 0, none⟩ _ _ rfl HX.out.bx.b2.load rfl) rfl ⟨_, _, _, _, rfl, HFIN.out.1, HX.out.bx.below, HFIN.out.2⟩
              · rw [if_pos (by rfl)]
                refine wp_one99 _ (by rfl) p HP.out (by rfl) ?_
                simp only [Act.put, List.setIfInBounds_toArray]
                refine hK _ _ ?_
                clear hK K
                have HN := Lib.hid (Buf.new X1 p (p.map bv).toArray 55 rfl HP.out)
                have HNE := Lib.hid (show X1.heap.size ≠ e0 from Nat.ne_of_gt (ownsRow_ge HE.out (by rfl)).2)
                have HE := Lib.hid (row_more HE.out (.cells (p.map bv).toArray 55))
                have HB2 := Lib.hid (HB1.out.alloc HB1.out.size (.cells (p.map bv).toArray 55))
                generalize X1.heap.size = b5 at *
                generalize X1.alloc (.cells (p.map bv).toArray 55) = X2 at *
                refine wpAny_ready (rs := [3]) (by kernel_rfl) (by simp) ?_
                refine AllReady.cons rfl (fun K hK => ?_) AllReady.nil
                rw [if_pos (by rfl)]
                refine wp_app_row HL.out _ _ (by rfl) HE.out (rowSrc_row (row_below (row_below HR.out.what HX.out.bx.below) HB2.out) (psC_cell _)) (by rfl) (by rfl) HN1.out (by decide) HB2.out.size ?_
                intro g1 cap1 X3 ho hg hl
                simp only [Nat.zero_add] at ho ⊢
                rw [List.nil_append] at ho
                simp only [Act.put]
                refine hK _ _ ?_
                clear hK K
                have HB3 := Lib.hid (row_grown HB2.out hg (ownsRow_ge HE.out (by rfl)).1 (Nat.le_refl _))
                have HN := Lib.hid (HN.out.of_block6 (hg.block b5 HN.out.lt (fun e => HNE.out (by injection e))) (Nat.lt_of_lt_of_le HN.out.lt hg.size))
                have H51 := Lib.hid ho
                clear ho hg hl HE
                refine wpAny_ready (rs := [6]) (by kernel_rfl) (by simp) ?_
                refine AllReady.cons rfl (fun K hK => ?_) AllReady.nil
                rw [if_pos (by rfl)]
                refine wp_app_row HL.out _ _ (by rfl) H51.out (buf_src HN.out) (by rfl) (by rfl) HN2.out (by decide) HB3.out.size ?_
                intro g2 cap2 X4 ho hg hl
                simp only [Act.put]
                refine hK _ _ ?_
                clear hK K
                have HB4 := Lib.hid (row_grown HB3.out hg (ownsRow_ge H51.out (by rfl)).1 (Nat.le_refl _))
                have H54 := Lib.hid ho
                clear ho hg hl H51 HN
                refine wpAny_ready (rs := [7]) (by kernel_rfl) (by simp) ?_
                refine AllReady.cons rfl (fun K hK => ?_) AllReady.nil
                go_simp
                refine hK _ _ ?_
                clear hK K
                refine wpAny_ready (rs := [8]) (by kernel_rfl) (by simp) ?_
                refine AllReady.cons rfl (fun K hK => ?_) AllReady.nil
                have c3 := (HX.out.step HB4.out).bx.b1.cell 3 _ rfl
                have f3 := (HX.out.step HB4.out).bx.b1.fz 3 (by decide)
                go_simp
                refine hK _ _ ?_
                clear hK K c3 f3
                refine wpAny_done (by kernel_rfl) ?_ _
                have HZ := Lib.hid (WEnd.of HX.out HB4.out H54.out)
                generalize X4.setCell ⟨W.heap.size, 3, none⟩ (.slice (some ⟨g2, 0, none⟩) (wh.length + 1) cap2) = Z at *
                have HX := Lib.hid (show Bp W Z W.heap.size (W.heap.size + 1 + 1) (W.heap.size + 1) [.slice a1 su.length a3, .slice (some ⟨g3, 0, none⟩) se.length cap3, .slice (some ⟨g5, 0, none⟩) (at_.length + 1) cap5, .slice (some ⟨g2, 0, none⟩) (wh.length + 1) cap2, .bool false, .int .i64 f2] zero6 p from HZ.out.bp)
                have HS2 := Lib.hid (ownsRow_of_block HRW.out (fun g hg => HZ.out.old g (ownsRow_ge HRW.out hg).2 (fun e => row_out HRW.out HLT.out.1 (e ▸ hg))))
                have HA2 := Lib.hid (ownsRow_of_block HRA.out (fun g hg => HZ.out.old g (ownsRow_ge HRA.out hg).2 (fun e => row_out HRA.out HLT.out.1 (e ▸ hg))))
                have HW2 := Lib.hid (row_base HZ.out.row HB1Y.out)
                go_wp2_with (first
                  | (refine wpList_load102 (e1 := W.heap.size) (cs1 := [.slice a1 su.length a3, .slice (some ⟨g3, 0, none⟩) se.length cap3, .slice (some ⟨g5, 0, none⟩) (at_.length + 1) cap5, .slice (some ⟨g2, 0, none⟩) (wh.length + 1) cap2, .bool false, .int .i64 f2]) (by rfl) (.tmp 3) (by rfl) ?_ ?_ ?_; exact HX.out.bx.b1; rfl)
                  | (refine wpList_store102 (e1 := W.heap.size + 1 + 1) (cs1 := zero6) (by rfl) (.tmp 6) (.tmp 56) (by rfl) [.slice a1 su.length a3, .slice (some ⟨g3, 0, none⟩) se.length cap3, .slice (some ⟨g5, 0, none⟩) (at_.length + 1) cap5, .slice (some ⟨g2, 0, none⟩) (wh.length + 1) cap2, .bool false, .int .i64 f2] ?_ ?_ ?_ ?_ ?_ ?_; exact HX.out.bx.b2; rfl; rfl; rfl; simp [Value.oneCell']))
                have HX := Lib.hid (HX.out.set2 [.slice a1 su.length a3, .slice (some ⟨g3, 0, none⟩) se.length cap3, .slice (some ⟨g5, 0, none⟩) (at_.length + 1) cap5, .slice (some ⟨g2, 0, none⟩) (wh.length + 1) cap2, .bool false, .int .i64 f2] rfl)
                have HFIN := Lib.hid (wr_final HR.out hB HX.out.bx.below k p HP.out HBW.out (row_set_far HS2.out _ _ _ (row_out HS2.out HLT.out.2.2)) (row_set_far HA2.out _ _ _ (row_out HA2.out HLT.out.2.2)) (row_set_far HW2.out _ _ _ (row_out HW2.out HLT.out.2.2)) HFW.out false f2)
                exact bodyPost_ret (results_cell2 (p := 6) (u := 7) (ty := 102) rfl _ _ ⟨W.heap.size + 1 + 1, 0, none⟩ _ _ rfl HX.out.bx.b2.load rfl) rfl ⟨_, _, _, _, rfl, HFIN.out.1, HX.out.bx.below, HFIN.out.2⟩
            · rw [if_pos (by rfl)]
              refine wp_one99 _ (by rfl) p HP.out (by rfl) ?_
              simp only [Act.put]
              refine hK _ _ ?_
              clear hK K
              have HN := Lib.hid (Buf.new X1 p (p.map bv).toArray 55 rfl HP.out)
              have HNE := Lib.hid (show X1.heap.size ≠ e0 from Nat.ne_of_gt (ownsRow_ge HE.out (by rfl)).2)
              have HE := Lib.hid (row_more HE.out (.cells (p.map bv).toArray 55))
              have HB2 := Lib.hid (HB1.out.alloc HB1.out.size (.cells (p.map bv).toArray 55))
              generalize X1.heap.size = b5 at *
              generalize X1.alloc (.cells (p.map bv).toArray 55) = X2 at *
              refine wpAny_ready (rs := [2]) (by kernel_rfl) (by simp) ?_
              refine AllReady.cons rfl (fun K hK => ?_) AllReady.nil
              have c2 : X2.cell? ⟨W.heap.size, 3, none⟩ = some (.slice d1 wh.length d3) := (HX.out.step HB2.out).bx.b1.cell 3 _ rfl
              go_simp
              refine hK _ _ ?_
              clear hK K c2
              refine wpAny_ready (rs := [3]) (by kernel_rfl) (by simp) ?_
              refine AllReady.cons rfl (fun K hK => ?_) AllReady.nil
              rw [if_pos (by rfl)]
              refine wp_app_row HL.out _ _ (by rfl) HE.out (rowSrc_row (row_below (row_below HR.out.what HX.out.bx.below) HB2.out) (psC_cell _)) (by rfl) (by rfl) HN1.out (by decide) HB2.out.size ?_
              intro g1 cap1 X3 ho hg hl
              simp only [Nat.zero_add] at ho ⊢
              rw [List.nil_append] at ho
              simp only [Act.put, List.setIfInBounds_toArray]
              refine hK _ _ ?_
              clear hK K
              have HB3 := Lib.hid (row_grown HB2.out hg (ownsRow_ge HE.out (by rfl)).1 (Nat.le_refl _))
              have HN := Lib.hid (HN.out.of_block6 (hg.block b5 HN.out.lt (fun e => HNE.out (by injection e))) (Nat.lt_of_lt_of_le HN.out.lt hg.size))
              have H51 := Lib.hid ho
              clear ho hg hl HE
              refine wpAny_ready (rs := [6]) (by kernel_rfl) (by simp) ?_
              refine AllReady.cons rfl (fun K hK => ?_) AllReady.nil
              rw [if_pos (by rfl)]
              refine wp_app_row HL.out _ _ (by rfl) H51.out (buf_src HN.out) (by rfl) (by rfl) HN2.out (by decide) HB3.out.size ?_
              intro g2 cap2 X4 ho hg hl
              simp only [Act.put]
              refine hK _ _ ?_
              clear hK K
              have HB4 := Lib.hid (row_grown HB3.out hg (ownsRow_ge H51.out (by rfl)).1 (Nat.le_refl _))
              have H54 := Lib.hid ho
              clear ho hg hl H51 HN
              refine wpAny_ready (rs := [7]) (by kernel_rfl) (by simp) ?_
              refine AllReady.cons rfl (fun K hK => ?_) AllReady.nil
              go_simp
              refine hK _ _ ?_
              clear hK K
              refine wpAny_ready (rs := [8]) (by kernel_rfl) (by simp) ?_
              refine AllReady.cons rfl (fun K hK => ?_) AllReady.nil
              have c3 := (HX.out.step HB4.out).bx.b1.cell 3 _ rfl
              have f3 := (HX.out.step HB4.out).bx.b1.fz 3 (by decide)
              go_simp
              refine hK _ _ ?_
              clear hK K c3 f3
              refine wpAny_done (by kernel_rfl) ?_ _
              have HZ := Lib.hid (WEnd.of HX.out HB4.out H54.out)
              generalize X4.setCell ⟨W.heap.size, 3, none⟩ (.slice (some ⟨g2, 0, none⟩) (wh.length + 1) cap2) = Z at *
              have HX := Lib.hid (show Bp W Z W.heap.size (W.heap.size + 1 + 1) (W.heap.size + 1) [.slice a1 su.length a3, .slice (some ⟨g3, 0, none⟩) se.length cap3, .slice (some ⟨g5, 0, none⟩) (at_.length + 1) cap5, .slice (some ⟨g2, 0, none⟩) (wh.length + 1) cap2, .bool false, .int .i64 f2] zero6 p from HZ.out.bp)
              have HS2 := Lib.hid (ownsRow_of_block HRW.out (fun g hg => HZ.out.old g (ownsRow_ge HRW.out hg).2 (fun e => row_out HRW.out HLT.out.1 (e ▸ hg))))
              have HA2 := Lib.hid (ownsRow_of_block HRA.out (fun g hg => HZ.out.old g (ownsRow_ge HRA.out hg).2 (fun e => row_out HRA.out HLT.out.1 (e ▸ hg))))
              have HW2 := Lib.hid (row_base HZ.out.row HB1Y.out)
              go_wp2_with (first
                | (refine wpList_load102 (e1 := W.heap.size) (cs1 := [.slice a1 su.length a3, .slice (some ⟨g3, 0, none⟩) se.length cap3, .slice (some ⟨g5, 0, none⟩) (at_.length + 1) cap5, .slice (some ⟨g2, 0, none⟩) (wh.length + 1) cap2, .bool false, .int .i64 f2]) (by rfl) (.tmp 3) (by rfl) ?_ ?_ ?_; exact HX.out.bx.b1; rfl)
                | (refine wpList_store102 (e1 := W.heap.size + 1 + 1) (cs1 := zero6) (by rfl) (.tmp 6) (.tmp 56) (by rfl) [.slice a1 su.length a3, .slice (some ⟨g3, 0, none⟩) se.length cap3, .slice (some ⟨g5, 0, none⟩) (at_.length + 1) cap5, .slice (some ⟨g2, 0, none⟩) (wh.length + 1) cap2, .bool false, .int .i64 f2] ?_ ?_ ?_ ?_ ?_ ?_; exact HX.out.bx.b2; rfl; rfl; rfl; simp [Value.oneCell']))
              have HX := Lib.hid (HX.out.set2 [.slice a1 su.length a3, .slice (some ⟨g3, 0, none⟩) se.length cap3, .slice (some ⟨g5, 0, none⟩) (at_.length + 1) cap5, .slice (some ⟨g2, 0, none⟩) (wh.length + 1) cap2, .bool false, .int .i64 f2] rfl)
              have HFIN := Lib.hid (wr_final HR.out hB HX.out.bx.below k p HP.out HBW.out (row_set_far HS2.out _ _ _ (row_out HS2.out HLT.out.2.2)) (row_set_far HA2.out _ _ _ (row_out HA2.out HLT.out.2.2)) (row_set_far HW2.out _ _ _ (row_out HW2.out HLT.out.2.2)) HFW.out false f2)
              exact bodyPost_ret (results_cell2 (p := 6) (u := 7) (ty := 102) rfl _ _ ⟨W.heap.size + 1 + 1, 0, none⟩ _ _ rfl HX.out.bx.b2.load rfl) rfl ⟨_, _, _, _, rfl, HFIN.out.1, HX.out.bx.below, HFIN.out.2⟩
        · have c2 : X0.cell? ⟨W.heap.size, 3, none⟩ = some (.slice d1 wh.length d3) := (HX.out.step HB0.out).bx.b1.cell 3 _ rfl
          go_simp
          refine hK _ _ ?_
          clear hK K c2
          refine wpAny_ready (rs := [0, 4]) (by kernel_rfl) (by simp) ?_
          refine AllReady.cons rfl (fun K hK => ?_) (AllReady.cons rfl (fun K hK => ?_) AllReady.nil)
          · go_simp
            refine hK _ _ ?_
            clear hK K
            have HE := Lib.hid (no_row X0 Y.heap.size HB0.out.size 55 64)
            have HB1 := Lib.hid (HB0.out.alloc HB0.out.size (.cells #[] 55))
            generalize X0.heap.size = e0 at *
            generalize X0.alloc (.cells #[] 55) = X1 at *
            refine wpAny_ready (rs := [3, 4]) (by kernel_rfl) (by simp) ?_
            refine AllReady.cons rfl (fun K hK => ?_) (AllReady.cons rfl (fun K hK => ?_) AllReady.nil)
            · rw [if_pos (by rfl)]
              refine wp_app_row HL.out _ _ (by rfl) HE.out (rowSrc_row (row_below (row_below HR.out.what HX.out.bx.below) HB1.out) (psC_cell _)) (by rfl) (by rfl) HN1.out (by decide) HB1.out.size ?_
              intro g1 cap1 X2 ho hg hl
              simp only [Nat.zero_add] at ho ⊢
              rw [List.nil_append] at ho
              simp only [Act.put, List.setIfInBounds_toArray]
              refine hK _ _ ?_
              clear hK K
              have HB2 := Lib.hid (row_grown HB1.out hg (ownsRow_ge HE.out (by rfl)).1 (Nat.le_refl _))
              have H51 := Lib.hid ho
              clear ho hg hl HE
              refine wpAny_ready (rs := [4]) (by kernel_rfl) (by simp) ?_
              refine AllReady.cons rfl (fun K hK => ?_) AllReady.nil
              rw [if_pos (by rfl)]
              refine wp_load_mid 55 _ (by rfl) (W.heap.size + 1) 0 (by rfl) (p.map bv) _ (HX.out.step HB2.out).pg.range Try.underlying55 rfl (by rw [info55, List.length_map, HP.out]) ?_
              simp only [Act.put]
              refine hK _ _ ?_
              clear hK K
              refine wpAny_ready (rs := [5]) (by kernel_rfl) (by simp) ?_
              refine AllReady.cons rfl (fun K hK => ?_) AllReady.nil
              rw [if_pos (by rfl)]
              refine wp_one99 _ (by rfl) p HP.out (by rfl) ?_
              simp only [Act.put]
              refine hK _ _ ?_
              clear hK K
              have HN := Lib.hid (Buf.new X2 p (p.map bv).toArray 55 rfl HP.out)
              have H51 := Lib.hid (row_more H51.out (.cells (p.map bv).toArray 55))
              have HB3 := Lib.hid (HB2.out.alloc HB2.out.size (.cells (p.map bv).toArray 55))
              generalize X2.heap.size = b5 at *
              generalize X2.alloc (.cells (p.map bv).toArray 55) = X3 at *
              refine wpAny_ready (rs := [6]) (by kernel_rfl) (by simp) ?_
              refine AllReady.cons rfl (fun K hK => ?_) AllReady.nil
              rw [if_pos (by rfl)]
              refine wp_app_row HL.out _ _ (by rfl) H51.out (buf_src HN.out) (by rfl) (by rfl) HN2.out (by decide) HB3.out.size ?_
              intro g2 cap2 X4 ho hg hl
              simp only [Act.put]
              refine hK _ _ ?_
              clear hK K
              have HB4 := Lib.hid (row_grown HB3.out hg (ownsRow_ge H51.out (by rfl)).1 (Nat.le_refl _))
              have H54 := Lib.hid ho
              clear ho hg hl H51 HN
              refine wpAny_ready (rs := [7]) (by kernel_rfl) (by simp) ?_
              refine AllReady.cons rfl (fun K hK => ?_) AllReady.nil
              go_simp
              refine hK _ _ ?_
              clear hK K
              refine wpAny_ready (rs := [8]) (by kernel_rfl) (by simp) ?_
              refine AllReady.cons rfl (fun K hK => ?_) AllReady.nil
              have c3 := (HX.out.step HB4.out).bx.b1.cell 3 _ rfl
              have f3 := (HX.out.step HB4.out).bx.b1.fz 3 (by decide)
              go_simp
              refine hK _ _ ?_
              clear hK K c3 f3
              refine wpAny_done (by kernel_rfl) ?_ _
              have HZ := Lib.hid (WEnd.of HX.out HB4.out H54.out)
              generalize X4.setCell ⟨W.heap.size, 3, none⟩ (.slice (some ⟨g2, 0, none⟩) (wh.length + 1) cap2) = Z at *
              have HX := Lib.hid (show Bp W Z W.heap.size (W.heap.size + 1 + 1) (W.heap.size + 1) [.slice a1 su.length a3, .slice (some ⟨g3, 0, none⟩) se.length cap3, .slice (some ⟨g5, 0, none⟩) (at_.length + 1) cap5, .slice (some ⟨g2, 0, none⟩) (wh.length + 1) cap2, .bool false, .int .i64 f2] zero6 p from HZ.out.bp)
              have HS2 := Lib.hid (ownsRow_of_block HRW.out (fun g hg => HZ.out.old g (ownsRow_ge HRW.out hg).2 (fun e => row_out HRW.out HLT.out.1 (e ▸ hg))))
              have HA2 := Lib.hid (ownsRow_of_block HRA.out (fun g hg => HZ.out.old g (ownsRow_ge HRA.out hg).2 (fun e => row_out HRA.out HLT.out.1 (e ▸ hg))))
              have HW2 := Lib.hid (row_base HZ.out.row HB1Y.out)
              go_wp2_with (first
                | (refine wpList_load102 (e1 := W.heap.size) (cs1 := [.slice a1 su.length a3, .slice (some ⟨g3, 0, none⟩) se.length cap3, .slice (some ⟨g5, 0, none⟩) (at_.length + 1) cap5, .slice (some ⟨g2, 0, none⟩) (wh.length + 1) cap2, .bool false, .int .i64 f2]) (by rfl) (.tmp 3) (by rfl) ?_ ?_ ?_; exact HX.out.bx.b1; rfl)
                | (refine wpList_store102 (e1 := W.heap.size + 1 + 1) (cs1 := zero6) (by rfl) (.tmp 6) (.tmp 56) (by rfl) [.slice a1 su.length a3, .slice (some ⟨g3, 0, none⟩) se.length cap3, .slice (some ⟨g5, 0, none⟩) (at_.length + 1) cap5, .slice (some ⟨g2, 0, none⟩) (wh.length + 1) cap2, .bool false, .int .i64 f2] ?_ ?_ ?_ ?_ ?_ ?_; exact HX.out.bx.b2; rfl; rfl; rfl; simp [Value.oneCell']))
              have HX := Lib.hid (HX.out.set2 [.slice a1 su.length a3, .slice (some ⟨g3, 0, none⟩) se.length cap3, .slice (some ⟨g5, 0, none⟩) (at_.length + 1) cap5, .slice (some ⟨g2, 0, none⟩) (wh.length + 1) cap2, .bool false, .int .i64 f2] rfl)
              have HFIN := Lib.hid (wr_final HR.out hB HX.out.bx.below k p HP.out HBW.out (row_set_far HS2.out _ _ _ (row_out HS2.out HLT.out.2.2)) (row_set_far HA2.out _ _ _ (row_out HA2.out HLT.out.2.2)) (row_set_far HW2.out _ _ _ (row_out HW2.out HLT.out.2.2)) HFW.out false f2)
              exact bodyPost_ret (results_cell2 (p := 6) (u := 7) (ty := 102) rfl _ _ ⟨W.heap.size + 1 + 1, 0, none⟩ _ _ rfl HX.out.bx.b2.load rfl) rfl ⟨_, _, _, _, rfl, HFIN.out.1, HX.out.bx.below, HFIN.out.2⟩
            · rw [if_pos (by rfl)]
              refine wp_load_mid 55 _ (by rfl) (W.heap.size + 1) 0 (by rfl) (p.map bv) _ (HX.out.step HB1.out).pg.range Try.underlying55 rfl (by rw [info55, List.length_map, HP.out]) ?_
              simp only [Act.put, List.setIfInBounds_toArray]
              refine hK _ _ ?_
              clear hK K
              refine wpAny_ready (rs := [3, 5]) (by kernel_rfl) (by simp) ?_
              refine AllReady.cons rfl (fun K hK => ?_) (AllReady.cons rfl (fun K hK => ?_) AllReady.nil)
              · rw [if_pos (by rfl)]
                refine wp_app_row HL.out _ _ (by rfl) HE.out (rowSrc_row (row_below (row_below HR.out.what HX.out.bx.below) HB1.out) (psC_cell _)) (by rfl) (by rfl) HN1.out (by decide) HB1.out.size ?_
                intro g1 cap1 X2 ho hg hl
                simp only [Nat.zero_add] at ho ⊢
                rw [List.nil_append] at ho
                simp only [Act.put]
                refine hK _ _ ?_
                clear hK K
                have HB2 := Lib.hid (row_grown HB1.out hg (ownsRow_ge HE.out (by rfl)).1 (Nat.le_refl _))
                have H51 := Lib.hid ho
                clear ho hg hl HE
                refine wpAny_ready (rs := [5]) (by kernel_rfl) (by simp) ?_
                refine AllReady.cons rfl (fun K hK => ?_) AllReady.nil
                rw [if_pos (by rfl)]
                refine wp_one99 _ (by rfl) p HP.out (by rfl) ?_
                simp only [Act.put]
                refine hK _ _ ?_
                clear hK K
                have HN := Lib.hid (Buf.new X2 p (p.map bv).toArray 55 rfl HP.out)
                have H51 := Lib.hid (row_more H51.out (.cells (p.map bv).toArray 55))
                have HB3 := Lib.hid (HB2.out.alloc HB2.out.size (.cells (p.map bv).toArray 55))
                generalize X2.heap.size = b5 at *
                generalize X2.alloc (.cells (p.map bv).toArray 55) = X3 at *
                refine wpAny_ready (rs := [6]) (by kernel_rfl) (by simp) ?_
                refine AllReady.cons rfl (fun K hK => ?_) AllReady.nil
                rw [if_pos (by rfl)]
                refine wp_app_row HL.out _ _ (by rfl) H51.out (buf_src HN.out) (by rfl) (by rfl) HN2.out (by decide) HB3.out.size ?_
                intro g2 cap2 X4 ho hg hl
                simp only [Act.put]
                refine hK _ _ ?_
                clear hK K
                have HB4 := Lib.hid (row_grown HB3.out hg (ownsRow_ge H51.out (by rfl)).1 (Nat.le_refl _))
                have H54 := Lib.hid ho
                clear ho hg hl H51 HN
                refine wpAny_ready (rs := [7]) (by kernel_rfl) (by simp) ?_
                refine AllReady.cons rfl (fun K hK => ?_) AllReady.nil
                go_simp
                refine hK _ _ ?_
                clear hK K
                refine wpAny_ready (rs := [8]) (by kernel_rfl) (by simp) ?_
                refine AllReady.cons rfl (fun K hK => ?_) AllReady.nil
                have c3 := (HX.out.step HB4.out).bx.b1.cell 3 _ rfl
                have f3 := (HX.out.step HB4.out).bx.b1.fz 3 (by decide)
                go_simp
                refine hK _ _ ?_
                clear hK K c3 f3
                refine wpAny_done (by kernel_rfl) ?_ _
                have HZ := Lib.hid (WEnd.of HX.out HB4.out H54.out)
                generalize X4.setCell ⟨W.heap.size, 3, none⟩ (.slice (some ⟨g2, 0, none⟩) (wh.length + 1) cap2) = Z at *
                have HX := Lib.hid (show Bp W Z W.heap.size (W.heap.size + 1 + 1) (W.heap.size + 1) [.slice a1 su.length a3, .slice (some ⟨g3, 0, none⟩) se.length cap3, .slice (some ⟨g5, 0, none⟩) (at_.length + 1) cap5, .slice (some ⟨g2, 0, none⟩) (wh.length + 1) cap2, .bool false, .int .i64 f2] zero6 p from HZ.out.bp)
                have HS2 := Lib.hid (ownsRow_of_block HRW.out (fun g hg => HZ.out.old g (ownsRow_ge HRW.out hg).2 (fun e => row_out HRW.out HLT.out.1 (e ▸ hg))))
                have HA2 := Lib.hid (ownsRow_of_block HRA.out (fun g hg => HZ.out.old g (ownsRow_ge HRA.out hg).2 (fun e => row_out HRA.out HLT.out.1 (e ▸ hg))))
                have HW2 := Lib.hid (row_base HZ.out.row HB1Y.out)
                go_wp2_with (first
                  | (refine wpList_load102 (e1 := W.heap.size) (cs1 := [.slice a1 su.length a3, .slice (some ⟨g3, 0, none⟩) se.length cap3, .slice (some ⟨g5, 0, none⟩) (at_.length + 1) cap5, .slice (some ⟨g2, 0, none⟩) (wh.length + 1) cap2, .bool false, .int .i64 f2]) (by rfl) (.tmp 3) (by rfl) ?_ ?_ ?_; exact HX.out.bx.b1; rfl)
                  | (refine wpList_store102 (e1 := W.heap.size + 1 + 1) (cs1 := zero6) (by rfl) (.tmp 6) (.tmp 56) (by rfl) [.slice a1 su.length a3, .slice (some ⟨g3, 0, none⟩) se.length cap3, .slice (some ⟨g5, 0, none⟩) (at_.length + 1) cap5, .slice (some ⟨g2, 0, none⟩) (wh.length + 1) cap2, .bool false, .int .i64 f2] ?_ ?_ ?_ ?_ ?_ ?_; exact HX.out.bx.b2; rfl; rfl; rfl; simp [Value.oneCell']))
                have HX := Lib.hid (HX.out.set2 [.slice a1 su.length a3, .slice (some ⟨g3, 0, none⟩) se.length cap3, .slice (some ⟨g5, 0, none⟩) (at_.length + 1) cap5, .slice (some ⟨g2, 0, none⟩) (wh.length + 1) cap2, .bool false, .int .i64 f2] rfl)
                have HFIN := Lib.hid (wr_final HR.out hB HX.out.bx.below k p HP.out HBW.out (row_set_far HS2.out _ _ _ (row_out HS2.out HLT.out.2.2)) (row_set_far HA2.out _ _ _ (row_out HA2.out HLT.out.2.2)) (row_set_far HW2.out _ _ _ (row_out HW2.out HLT.out.2.2)) HFW.out false f2)
                exact bodyPost_ret (results_cell2 (p := 6) (u := 7) (ty := 102) rfl _ _ ⟨W.heap.size + 1 + 1, 0, none⟩ _ _ rfl HX.out.bx.b2.load rfl) rfl ⟨_, _, _, _, rfl, HFIN.out.1, HX.out.bx.below, HFIN.out.2⟩
              · rw [if_pos (by rfl)]
                refine wp_one99 _ (by rfl) p HP.out (by rfl) ?_
                simp only [Act.put]
                refine hK _ _ ?_
                clear hK K
                have HN := Lib.hid (Buf.new X1 p (p.map bv).toArray 55 rfl HP.out)
                have HNE := Lib.hid (show X1.heap.size ≠ e0 from Nat.ne_of_gt (ownsRow_ge HE.out (by rfl)).2)
                have HE := Lib.hid (row_more HE.out (.cells (p.map bv).toArray 55))
                have HB2 := Lib.hid (HB1.out.alloc HB1.out.size (.cells (p.map bv).toArray 55))
                generalize X1.heap.size = b5 at *
                generalize X1.alloc (.cells (p.map bv).toArray 55) = X2 at *
                refine wpAny_ready (rs := [3]) (by kernel_rfl) (by simp) ?_
                refine AllReady.cons rfl (fun K hK => ?_) AllReady.nil
                rw [if_pos (by rfl)]
                refine wp_app_row HL.out _ _ (by rfl) HE.out (rowSrc_row (row_below (row_below HR.out.what HX.out.bx.below) HB2.out) (psC_cell _)) (by rfl) (by rfl) HN1.out (by decide) HB2.out.size ?_
                intro g1 cap1 X3 ho hg hl
                simp only [Nat.zero_add] at ho ⊢
                rw [List.nil_append] at ho
                simp only [Act.put]
                refine hK _ _ ?_
                clear hK K
                have HB3 := Lib.hid (row_grown HB2.out hg (ownsRow_ge HE.out (by rfl)).1 (Nat.le_refl _))
                have HN := Lib.hid (HN.out.of_block6 (hg.block b5 HN.out.lt (fun e => HNE.out (by injection e))) (Nat.lt_of_lt_of_le HN.out.lt hg.size))
                have H51 := Lib.hid ho
                clear ho hg hl HE
                refine wpAny_ready (rs := [6]) (by kernel_rfl) (by simp) ?_
                refine AllReady.cons rfl (fun K hK => ?_) AllReady.nil
                rw [if_pos (by rfl)]
                refine wp_app_row HL.out _ _ (by rfl) H51.out (buf_src HN.out) (by rfl) (by rfl) HN2.out (by decide) HB3.out.size ?_
                intro g2 cap2 X4 ho hg hl
                simp only [Act.put]
                refine hK _ _ ?_
                clear hK K
                have HB4 := Lib.hid (row_grown HB3.out hg (ownsRow_ge H51.out (by rfl)).1 (Nat.le_refl _))
                have H54 := Lib.hid ho
                clear ho hg hl H51 HN
                refine wpAny_ready (rs := [7]) (by kernel_rfl) (by simp) ?_
                refine AllReady.cons rfl (fun K hK => ?_) AllReady.nil
                go_simp
                refine hK _ _ ?_
                clear hK K
                refine wpAny_ready (rs := [8]) (by kernel_rfl) (by simp) ?_
                refine AllReady.cons rfl (fun K hK => ?_) AllReady.nil
                have c3 := (HX.out.step HB4.out).bx.b1.cell 3 _ rfl
                have f3 := (HX.out.step HB4.out).bx.b1.fz 3 (by decide)
                go_simp
                refine hK _ _ ?_
                clear hK K c3 f3
                refine wpAny_done (by kernel_rfl) ?_ _
                have HZ := Lib.hid (WEnd.of HX.out HB4.out H54.out)
                generalize X4.setCell ⟨W.heap.size, 3, none⟩ (.slice (some ⟨g2, 0, none⟩) (wh.length + 1) cap2) = Z at *
                have HX := Lib.hid (show Bp W Z W.heap.size (W.heap.size + 1 + 1) (W.heap.size + 1) [.slice a1 su.length a3, .slice (some ⟨g3, 0, none⟩) se.length cap3, .slice (some ⟨g5, 0, none⟩) (at_.length + 1) cap5, .slice (some ⟨g2, 0, none⟩) (wh.length + 1) cap2, .bool false, .int .i64 f2] zero6 p from HZ.out.bp)
                have HS2 := Lib.hid (ownsRow_of_block HRW.out (fun g hg => HZ.out.old g (ownsRow_ge HRW.out hg).2 (fun e => row_out HRW.out HLT.out.1 (e ▸ hg))))
                have HA2 := Lib.hid (ownsRow_of_block HRA.out (fun g hg => HZ.out.old g (ownsRow_ge HRA.out hg).2 (fun e => row_out HRA.out HLT.out.1 (e ▸ hg))))
                have HW2 := Lib.hid (row_base HZ.out.row HB1Y.out)
                go_wp2_with (first
                  | (refine wpList_load102 (e1 := W.heap.size) (cs1 := [.slice a1 su.length a3, .slice (some ⟨g3, 0, none⟩) se.length cap3, .slice (some ⟨g5, 0, none⟩) (at_.length + 1) cap5, .slice (some ⟨g2, 0, none⟩) (wh.length + 1) cap2, .bool false, .int .i64 f2]) (by rfl) (.tmp 3) (by rfl) ?_ ?_ ?_; exact HX.out.bx.b1; rfl)
                  | (refine wpList_store102 (e1 := W.heap.size + 1 + 1) (cs1 := zero6) (by rfl) (.tmp 6) (.tmp 56) (by rfl) [.slice a1 su.length a3, .slice (some ⟨g3, 0, none⟩) se.length cap3, .slice (some ⟨g5, 0, none⟩) (at_.length + 1) cap5, .slice (some ⟨g2, 0, none⟩) (wh.length + 1) cap2, .bool false, .int .i64 f2] ?_ ?_ ?_ ?_ ?_ ?_; exact HX.out.bx.b2; rfl; rfl; rfl; simp [Value.oneCell']))
                have HX := Lib.hid (HX.out.set2 [.slice a1 su.length a3, .slice (some ⟨g3, 0, none⟩) se.length cap3, .slice (some ⟨g5, 0, none⟩) (at_.length + 1) cap5, .slice (some ⟨g2, 0, none⟩) (wh.length + 1) cap2, .bool false, .int .i64 f2] rfl)
                have HFIN := Lib.hid (wr_final HR.out hB HX.out.bx.below k p HP.out HBW.out (row_set_far HS2.out _ _ _ (row_out HS2.out HLT.out.2.2)) (row_set_far HA2.out _ _ _ (row_out HA2.out HLT.out.2.2)) (row_set_far HW2.out _ _ _ (row_out HW2.out HLT.out.2.2)) HFW.out false f2)
                exact bodyPost_ret (results_cell2 (p := 6) (u := 7) (ty := 102) rfl _ _ ⟨W.heap.size + 1 + 1, 0, none⟩ _ _ rfl HX.out.bx.b2.load rfl) rfl ⟨_, _, _, _, rfl, HFIN.out.1, HX.out.bx.below, HFIN.out.2⟩
          · rw [if_pos (by rfl)]
            refine wp_load_mid 55 _ (by rfl) (W.heap.size + 1) 0 (by rfl) (p.map bv) _ (HX.out.step HB0.out).pg.range Try.underlying55 rfl (by rw [info55, List.length_map, HP.out]) ?_
            simp only [Act.put, List.setIfInBounds_toArray]
            refine hK _ _ ?_
            clear hK K
            refine wpAny_ready (rs := [0, 5]) (by kernel_rfl) (by simp) ?_
            refine AllReady.cons rfl (fun K hK => ?_) (AllReady.cons rfl (fun K hK => ?_) AllReady.nil)
            · go_simp
              refine hK _ _ ?_
              clear hK K
              have HE := Lib.hid (no_row X0 Y.heap.size HB0.out.size 55 64)
              have HB1 := Lib.hid (HB0.out.alloc HB0.out.size (.cells #[] 55))
              generalize X0.heap.size = e0 at *
              generalize X0.alloc (.cells #[] 55) = X1 at *
              refine wpAny_ready (rs := [3, 5]) (by kernel_rfl) (by simp) ?_
              refine AllReady.cons rfl (fun K hK => ?_) (AllReady.cons rfl (fun K hK => ?_) AllReady.nil)
              · rw [if_pos (by rfl)]
                refine wp_app_row HL.out _ _ (by rfl) HE.out (rowSrc_row (row_below (row_below HR.out.what HX.out.bx.below) HB1.out) (psC_cell _)) (by rfl) (by rfl) HN1.out (by decide) HB1.out.size ?_
                intro g1 cap1 X2 ho hg hl
                simp only [Nat.zero_add] at ho ⊢
                rw [List.nil_append] at ho
                simp only [Act.put, List.setIfInBounds_toArray]
                refine hK _ _ ?_
                clear hK K
                have HB2 := Lib.hid (row_grown HB1.out hg (ownsRow_ge HE.out (by rfl)).1 (Nat.le_refl _))
                have H51 := Lib.hid ho
                clear ho hg hl HE
                refine wpAny_ready (rs := [5]) (by kernel_rfl) (by simp) ?_
                refine AllReady.cons rfl (fun K hK => ?_) AllReady.nil
                rw [if_pos (by rfl)]
                refine wp_one99 _ (by rfl) p HP.out (by rfl) ?_
                simp only [Act.put]
                refine hK _ _ ?_
                clear hK K
                have HN := Lib.hid (Buf.new X2 p (p.map bv).toArray 55 rfl HP.out)
                have H51 := Lib.hid (row_more H51.out (.cells (p.map bv).toArray 55))
                have HB3 := Lib.hid (HB2.out.alloc HB2.out.size (.cells (p.map bv).toArray 55))
                generalize X2.heap.size = b5 at *
                generalize X2.alloc (.cells (p.map bv).toArray 55) = X3 at *
                refine wpAny_ready (rs := [6]) (by kernel_rfl) (by simp) ?_
                refine AllReady.cons rfl (fun K hK => ?_) AllReady.nil
                rw [if_pos (by rfl)]
                refine wp_app_row HL.out _ _ (by rfl) H51.out (buf_src HN.out) (by rfl) (by rfl) HN2.out (by decide) HB3.out.size ?_
                intro g2 cap2 X4 ho hg hl
                simp only [Act.put]
                refine hK _ _ ?_
                clear hK K
                have HB4 := Lib.hid (row_grown HB3.out hg (ownsRow_ge H51.out (by rfl)).1 (Nat.le_refl _))
                have H54 := Lib.hid ho
                clear ho hg hl H51 HN
                refine wpAny_ready (rs := [7]) (by kernel_rfl) (by simp) ?_
                refine AllReady.cons rfl (fun K hK => ?_) AllReady.nil
                go_simp
                refine hK _ _ ?_
                clear hK K
                refine wpAny_ready (rs := [8]) (by kernel_rfl) (by simp) ?_
                refine AllReady.cons rfl (fun K hK => ?_) AllReady.nil
                have c3 := (HX.out.step HB4.out).bx.b1.cell 3 _ rfl
                have f3 := (HX.out.step HB4.out).bx.b1.fz 3 (by decide)
                go_simp
                refine hK _ _ ?_
                clear hK K c3 f3
                refine wpAny_done (by kernel_rfl) ?_ _
                have HZ := Lib.hid (WEnd.of HX.out HB4.out H54.out)
                generalize X4.setCell ⟨W.heap.size, 3, none⟩ (.slice (some ⟨g2, 0, none⟩) (wh.length + 1) cap2) = Z at *
                have HX := Lib.hid (show Bp W Z W.heap.size (W.heap.size + 1 + 1) (W.heap.size + 1) [.slice a1 su.length a3, .slice (some ⟨g3, 0, none⟩) se.length cap3, .slice (some ⟨g5, 0, none⟩) (at_.length + 1) cap5, .slice (some ⟨g2, 0, none⟩) (wh.length + 1) cap2, .bool false, .int .i64 f2] zero6 p from HZ.out.bp)
                have HS2 := Lib.hid (ownsRow_of_block HRW.out (fun g hg => HZ.out.old g (ownsRow_ge HRW.out hg).2 (fun e => row_out HRW.out HLT.out.1 (e ▸ hg))))
                have HA2 := Lib.hid (ownsRow_of_block HRA.out (fun g hg => HZ.out.old g (ownsRow_ge HRA.out hg).2 (fun e => row_out HRA.out HLT.out.1 (e ▸ hg))))
                have HW2 := Lib.hid (row_base HZ.out.row HB1Y.out)
                go_wp2_with (first
                  | (refine wpList_load102 (e1 := W.heap.size) (cs1 := [.slice a1 su.length a3, .slice (some ⟨g3, 0, none⟩) se.length cap3, .slice (some ⟨g5, 0, none⟩) (at_.length + 1) cap5, .slice (some ⟨g2, 0, none⟩) (wh.length + 1) cap2, .bool false, .int .i64 f2]) (by rfl) (.tmp 3) (by rfl) ?_ ?_ ?_; exact HX.out.bx.b1; rfl)
                  | (refine wpList_store102 (e1 := W.heap.size + 1 + 1) (cs1 := zero6) (by rfl) (.tmp 6) (.tmp 56) (by rfl) [.slice a1 su.length a3, .slice (some ⟨g3, 0, none⟩) se.length cap3, .slice (some ⟨g5, 0, none⟩) (at_.length + 1) cap5, .slice (some ⟨g2, 0, none⟩) (wh.length + 1) cap2, .bool false, .int .i64 f2] ?_ ?_ ?_ ?_ ?_ ?_; exact HX.out.bx.b2; rfl; rfl; rfl; simp [Value.oneCell']))
                have HX := Lib.hid (HX.out.set2 [.slice a1 su.length a3, .slice (some ⟨g3, 0, none⟩) se.length cap3, .slice (some ⟨g5, 0, none⟩) (at_.length + 1) cap5, .slice (some ⟨g2, 0, none⟩) (wh.length + 1) cap2, .bool false, .int .i64 f2] rfl)
                have HFIN := Lib.hid (wr_final HR.out hB HX.out.bx.below k p HP.out HBW.out (row_set_far HS2.out _ _ _ (row_out HS2.out HLT.out.2.2)) (row_set_far HA2.out _ _ _ (row_out HA2.out HLT.out.2.2)) (row_set_far HW2.out _ _ _ (row_out HW2.out HLT.out.2.2)) HFW.out false f2)
                exact bodyPost_ret (results_cell2 (p := 6) (u := 7) (ty := 102) rfl _ _ ⟨W.heap.size + 1 + 1, 0, none⟩ _ _ rfl HX.out.bx.b2.load rfl) rfl ⟨_, _, _, _, rfl, HFIN.out.1, HX.out.bx.below, HFIN.out.2⟩
              · rw [if_pos (by rfl)]
                refine wp_one99 _ (by rfl) p HP.out (by rfl) ?_
                simp only [Act.put, List.setIfInBounds_toArray]
                refine hK _ _ ?_
                clear hK K
                have HN := Lib.hid (Buf.new X1 p (p.map bv).toArray 55 rfl HP.out)
                have HNE := Lib.hid (show X1.heap.size ≠ e0 from Nat.ne_of_gt (ownsRow_ge HE.out (by rfl)).2)
                have HE := Lib.hid (row_more HE.out (.cells (p.map bv).toArray 55))
                have HB2 := Lib.hid (HB1.out.alloc HB1.out.size (.cells (p.map bv).toArray 55))
                generalize X1.heap.size = b5 at *
                generalize X1.alloc (.cells (p.map bv).toArray 55) = X2 at *
                refine wpAny_ready (rs := [3]) (by kernel_rfl) (by simp) ?_
                refine AllReady.cons rfl (fun K hK => ?_) AllReady.nil
                rw [if_pos (by rfl)]
                refine wp_app_row HL.out _ _ (by rfl) HE.out (rowSrc_row (row_below (row_below HR.out.what HX.out.bx.below) HB2.out) (psC_cell _)) (by rfl) (by rfl) HN1.out (by decide) HB2.out.size ?_
                intro g1 cap1 X3 ho hg hl
                simp only [Nat.zero_add] at ho ⊢
                rw [List.nil_append] at ho
                simp only [Act.put]
                refine hK _ _ ?_
                clear hK K
                have HB3 := Lib.hid (row_grown HB2.out hg (ownsRow_ge HE.out (by rfl)).1 (Nat.le_refl _))
                have HN := Lib.hid (HN.out.of_block6 (hg.block b5 HN.out.lt (fun e => HNE.out (by injection e))) (Nat.lt_of_lt_of_le HN.out.lt hg.size))
                have H51 := Lib.hid ho
                clear ho hg hl HE
                refine wpAny_ready (rs := [6]) (by kernel_rfl) (by simp) ?_
                refine AllReady.cons rfl (fun K hK => ?_) AllReady.nil
                rw [if_pos (by rfl)]
                refine wp_app_row HL.out _ _ (by rfl) H51.out (buf_src HN.out) (by rfl) (by rfl) HN2.out (by decide) HB3.out.size ?_
                intro g2 cap2 X4 ho hg hl
                simp only [Act.put]
                refine hK _ _ ?_
                clear hK K
                have HB4 := Lib.hid (row_grown HB3.out hg (ownsRow_ge H51.out (by rfl)).1 (Nat.le_refl _))
                have H54 := Lib.hid ho
                clear ho hg hl H51 HN
                refine wpAny_ready (rs := [7]) (by kernel_rfl) (by simp) ?_
                refine AllReady.cons rfl (fun K hK => ?_) AllReady.nil
                go_simp
                refine hK _ _ ?_
                clear hK K
                refine wpAny_ready (rs := [8]) (by kernel_rfl) (by simp) ?_
                refine AllReady.cons rfl (fun K hK => ?_) AllReady.nil
                have c3 := (HX.out.step HB4.out).bx.b1.cell 3 _ rfl
                have f3 := (HX.out.step HB4.out).bx.b1.fz 3 (by decide)
                go_simp
                refine hK _ _ ?_
                clear hK K c3 f3
                refine wpAny_done (by kernel_rfl) ?_ _
                have HZ := Lib.hid (WEnd.of HX.out HB4.out H54.out)
                generalize X4.setCell ⟨W.heap.size, 3, none⟩ (.slice (some ⟨g2, 0, none⟩) (wh.length + 1) cap2) = Z at *
                have HX := Lib.hid (show Bp W Z W.heap.size (W.heap.size + 1 + 1) (W.heap.size + 1) [.slice a1 su.length a3, .slice (some ⟨g3, 0, none⟩) se.length cap3, .slice (some ⟨g5, 0, none⟩) (at_.length + 1) cap5, .slice (some ⟨g2, 0, none⟩) (wh.length + 1) cap2, .bool false, .int .i64 f2] zero6 p from HZ.out.bp)
                have HS2 := Lib.hid (ownsRow_of_block HRW.out (fun g hg => HZ.out.old g (ownsRow_ge HRW.out hg).2 (fun e => row_out HRW.out HLT.out.1 (e ▸ hg))))
                have HA2 := Lib.hid (ownsRow_of_block HRA.out (fun g hg => HZ.out.old g (ownsRow_ge HRA.out hg).2 (fun e => row_out HRA.out HLT.out.1 (e ▸ hg))))
                have HW2 := Lib.hid (row_base HZ.out.row HB1Y.out)
                go_wp2_with (first
                  | (refine wpList_load102 (e1 := W.heap.size) (cs1 := [.slice a1 su.length a3, .slice (some ⟨g3, 0, none⟩) se.length cap3, .slice (some ⟨g5, 0, none⟩) (at_.length + 1) cap5, .slice (some ⟨g2, 0, none⟩) (wh.length + 1) cap2, .bool false, .int .i64 f2]) (by rfl) (.tmp 3) (by rfl) ?_ ?_ ?_; exact HX.out.bx.b1; rfl)
                  | (refine wpList_store102 (e1 := W.heap.size + 1 + 1) (cs1 := zero6) (by rfl) (.tmp 6) (.tmp 56) (by rfl) [.slice a1 su.length a3, .slice (some ⟨g3, 0, none⟩) se.length cap3, .slice (some ⟨g5, 0, none⟩) (at_.length + 1) cap5, .slice (some ⟨g2, 0, none⟩) (wh.length + 1) cap2, .bool false, .int .i64 f2] ?_ ?_ ?_ ?_ ?_ ?_; exact HX.out.bx.b2; rfl; rfl; rfl; simp [Value.oneCell']))
                have HX := Lib.hid (HX.out.set2 [.slice a1 su.length a3, .slice (some ⟨g3, 0, none⟩) se.length cap3, .slice (some ⟨g5, 0, none⟩) (at_.length + 1) cap5, .slice (some ⟨g2, 0, none⟩) (wh.length + 1) cap2, .bool false, .int .i64 f2] rfl)
                have HFIN := Lib.hid (wr_final HR.out hB HX.out.bx.below k p HP.out HBW.out (row_set_far HS2.out _ _ _ (row_out HS2.out HLT.out.2.2)) (row_set_far HA2.out _ _ _ (row_out HA2.out HLT.out.2.2)) (row_set_far HW2.out _ _ _ (row_out HW2.out HLT.out.2.2)) HFW.out false f2)
                exact bodyPost_ret (results_cell2 (p := 6) (u := 7) (ty := 102) rfl _ _ ⟨W.heap.size + 1 + 1, 0, none⟩ _ _ rfl HX.out.bx.b2.load rfl) rfl ⟨_, _, _, _, rfl, HFIN.out.1, HX.out.bx.below, HFIN.out.2⟩
            · rw [if_pos (by rfl)]
              refine wp_one99 _ (by rfl) p HP.out (by rfl) ?_
              simp only [Act.put]
              refine hK _ _ ?_
              clear hK K
              have HN := Lib.hid (Buf.new X0 p (p.map bv).toArray 55 rfl HP.out)
              have HB1 := Lib.hid (HB0.out.alloc HB0.out.size (.cells (p.map bv).toArray 55))
              generalize X0.heap.size = b5 at *
              generalize X0.alloc (.cells (p.map bv).toArray 55) = X1 at *
              refine wpAny_ready (rs := [0]) (by kernel_rfl) (by simp) ?_
              refine AllReady.cons rfl (fun K hK => ?_) AllReady.nil
              go_simp
              refine hK _ _ ?_
              clear hK K
              have HE := Lib.hid (no_row X1 Y.heap.size HB1.out.size 55 64)
              have HNE := Lib.hid (show b5 ≠ X1.heap.size from Nat.ne_of_lt HN.out.lt)
              have HN := Lib.hid (HN.out.alloc (.cells #[] 55))
              have HB2 := Lib.hid (HB1.out.alloc HB1.out.size (.cells #[] 55))
              generalize X1.heap.size = e0 at *
              generalize X1.alloc (.cells #[] 55) = X2 at *
              refine wpAny_ready (rs := [3]) (by kernel_rfl) (by simp) ?_
              refine AllReady.cons rfl (fun K hK => ?_) AllReady.nil
              rw [if_pos (by rfl)]
              refine wp_app_row HL.out _ _ (by rfl) HE.out (rowSrc_row (row_below (row_below HR.out.what HX.out.bx.below) HB2.out) (psC_cell _)) (by rfl) (by rfl) HN1.out (by decide) HB2.out.size ?_
              intro g1 cap1 X3 ho hg hl
              simp only [Nat.zero_add] at ho ⊢
              rw [List.nil_append] at ho
              simp only [Act.put, List.setIfInBounds_toArray]
              refine hK _ _ ?_
              clear hK K
              have HB3 := Lib.hid (row_grown HB2.out hg (ownsRow_ge HE.out (by rfl)).1 (Nat.le_refl _))
              have HN := Lib.hid (HN.out.of_block6 (hg.block b5 HN.out.lt (fun e => HNE.out (by injection e))) (Nat.lt_of_lt_of_le HN.out.lt hg.size))
              have H51 := Lib.hid ho
              clear ho hg hl HE
              refine wpAny_ready (rs := [6]) (by kernel_rfl) (by simp) ?_
              refine AllReady.cons rfl (fun K hK => ?_) AllReady.nil
              rw [if_pos (by rfl)]
              refine wp_app_row HL.out _ _ (by rfl) H51.out (buf_src HN.out) (by rfl) (by rfl) HN2.out (by decide) HB3.out.size ?_
              intro g2 cap2 X4 ho hg hl
              simp only [Act.put]
              refine hK _ _ ?_
              clear hK K
              have HB4 := Lib.hid (row_grown HB3.out hg (ownsRow_ge H51.out (by rfl)).1 (Nat.le_refl _))
              have H54 := Lib.hid ho
              clear ho hg hl H51 HN
              refine wpAny_ready (rs := [7]) (by kernel_rfl) (by simp) ?_
              refine AllReady.cons rfl (fun K hK => ?_) AllReady.nil
              go_simp
              refine hK _ _ ?_
              clear hK K
              refine wpAny_ready (rs := [8]) (by kernel_rfl) (by simp) ?_
              refine AllReady.cons rfl (fun K hK => ?_) AllReady.nil
              have c3 := (HX.out.step HB4.out).bx.b1.cell 3 _ rfl
              have f3 := (HX.out.step HB4.out).bx.b1.fz 3 (by decide)
              go_simp
              refine hK _ _ ?_
              clear hK K c3 f3
              refine wpAny_done (by kernel_rfl) ?_ _
              have HZ := Lib.hid (WEnd.of HX.out HB4.out H54.out)
              generalize X4.setCell ⟨W.heap.size, 3, none⟩ (.slice (some ⟨g2, 0, none⟩) (wh.length + 1) cap2) = Z at *
              have HX := Lib.hid (show Bp W Z W.heap.size (W.heap.size + 1 + 1) (W.heap.size + 1) [.slice a1 su.length a3, .slice (some ⟨g3, 0, none⟩) se.length cap3, .slice (some ⟨g5, 0, none⟩) (at_.length + 1) cap5, .slice (some ⟨g2, 0, none⟩) (wh.length + 1) cap2, .bool false, .int .i64 f2] zero6 p from HZ.out.bp)
              have HS2 := Lib.hid (ownsRow_of_block HRW.out (fun g hg => HZ.out.old g (ownsRow_ge HRW.out hg).2 (fun e => row_out HRW.out HLT.out.1 (e ▸ hg))))
              have HA2 := Lib.hid (ownsRow_of_block HRA.out (fun g hg => HZ.out.old g (ownsRow_ge HRA.out hg).2 (fun e => row_out HRA.out HLT.out.1 (e ▸ hg))))
              have HW2 := Lib.hid (row_base HZ.out.row HB1Y.out)
              go_wp2_with (first
                | (refine wpList_load102 (e1 := W.heap.size) (cs1 := [.slice a1 su.length a3, .slice (some ⟨g3, 0, none⟩) se.length cap3, .slice (some ⟨g5, 0, none⟩) (at_.length + 1) cap5, .slice (some ⟨g2, 0, none⟩) (wh.length + 1) cap2, .bool false, .int .i64 f2]) (by rfl) (.tmp 3) (by rfl) ?_ ?_ ?_; exact HX.out.bx.b1; rfl)
                | (refine wpList_store102 (e1 := W.heap.size + 1 + 1) (cs1 := zero6) (by rfl) (.tmp 6) (.tmp 56) (by rfl) [.slice a1 su.length a3, .slice (some ⟨g3, 0, none⟩) se.length cap3, .slice (some ⟨g5, 0, none⟩) (at_.length + 1) cap5, .slice (some ⟨g2, 0, none⟩) (wh.length + 1) cap2, .bool false, .int .i64 f2] ?_ ?_ ?_ ?_ ?_ ?_; exact HX.out.bx.b2; rfl; rfl; rfl; simp [Value.oneCell']))
              have HX := Lib.hid (HX.out.set2 [.slice a1 su.length a3, .slice (some ⟨g3, 0, none⟩) se.length cap3, .slice (some ⟨g5, 0, none⟩) (at_.length + 1) cap5, .slice (some ⟨g2, 0, none⟩) (wh.length + 1) cap2, .bool false, .int .i64 f2] rfl)
              have HFIN := Lib.hid (wr_final HR.out hB HX.out.bx.below k p HP.out HBW.out (row_set_far HS2.out _ _ _ (row_out HS2.out HLT.out.2.2)) (row_set_far HA2.out _ _ _ (row_out HA2.out HLT.out.2.2)) (row_set_far HW2.out _ _ _ (row_out HW2.out HLT.out.2.2)) HFW.out false f2)
              exact bodyPost_ret (results_cell2 (p := 6) (u := 7) (ty := 102) rfl _ _ ⟨W.heap.size + 1 + 1, 0, none⟩ _ _ rfl HX.out.bx.b2.load rfl) rfl ⟨_, _, _, _, rfl, HFIN.out.1, HX.out.bx.below, HFIN.out.2⟩
        · rw [if_pos (by rfl)]
          refine wp_load_mid 55 _ (by rfl) (W.heap.size + 1) 0 (by rfl) (p.map bv) _ (HX.out.step HB0.out).pg.range Try.underlying55 rfl (by rw [info55, List.length_map, HP.out]) ?_
          simp only [Act.put]
          refine hK _ _ ?_
          clear hK K
          refine wpAny_ready (rs := [0, 2, 5]) (by kernel_rfl) (by simp) ?_
          refine AllReady.cons rfl (fun K hK => ?_) (AllReady.cons rfl (fun K hK => ?_) (AllReady.cons rfl (fun K hK => ?_) AllReady.nil))
          · go_simp
            refine hK _ _ ?_
            clear hK K
            have HE := Lib.hid (no_row X0 Y.heap.size HB0.out.size 55 64)
            have HB1 := Lib.hid (HB0.out.alloc HB0.out.size (.cells #[] 55))
            generalize X0.heap.size = e0 at *
            generalize X0.alloc (.cells #[] 55) = X1 at *
            refine wpAny_ready (rs := [2, 5]) (by kernel_rfl) (by simp) ?_
            refine AllReady.cons rfl (fun K hK => ?_) (AllReady.cons rfl (fun K hK => ?_) AllReady.nil)
            · have c2 : X1.cell? ⟨W.heap.size, 3, none⟩ = some (.slice d1 wh.length d3) := (HX.out.step HB1.out).bx.b1.cell 3 _ rfl
              go_simp
              refine hK _ _ ?_
              clear hK K c2
              refine wpAny_ready (rs := [3, 5]) (by kernel_rfl) (by simp) ?_
              refine AllReady.cons rfl (fun K hK => ?_) (AllReady.cons rfl (fun K hK => ?_) AllReady.nil)
              · rw [if_pos (by rfl)]
                refine wp_app_row HL.out _ _ (by rfl) HE.out (rowSrc_row (row_below (row_below HR.out.what HX.out.bx.below) HB1.out) (psC_cell _)) (by rfl) (by rfl) HN1.out (by decide) HB1.out.size ?_
                intro g1 cap1 X2 ho hg hl
                simp only [Nat.zero_add] at ho ⊢
                rw [List.nil_append] at ho
                simp only [Act.put, List.setIfInBounds_toArray]
                refine hK _ _ ?_
                clear hK K
                have HB2 := Lib.hid (row_grown HB1.out hg (ownsRow_ge HE.out (by rfl)).1 (Nat.le_refl _))
                have H51 := Lib.hid ho
                clear ho hg hl HE
                refine wpAny_ready (rs := [5]) (by kernel_rfl) (by simp) ?_
                refine AllReady.cons rfl (fun K hK => ?_) AllReady.nil
                rw [if_pos (by rfl)]
                refine wp_one99 _ (by rfl) p HP.out (by rfl) ?_
                simp only [Act.put]
                refine hK _ _ ?_
                clear hK K
                have HN := Lib.hid (Buf.new X2 p (p.map bv).toArray 55 rfl HP.out)
                have H51 := Lib.hid (row_more H51.out (.cells (p.map bv).toArray 55))
                have HB3 := Lib.hid (HB2.out.alloc HB2.out.size (.cells (p.map bv).toArray 55))
                generalize X2.heap.size = b5 at *
                generalize X2.alloc (.cells (p.map bv).toArray 55) = X3 at *
                refine wpAny_ready (rs := [6]) (by kernel_rfl) (by simp) ?_
                refine AllReady.cons rfl (fun K hK => ?_) AllReady.nil
                rw [if_pos (by rfl)]
                refine wp_app_row HL.out _ _ (by rfl) H51.out (buf_src HN.out) (by rfl) (by rfl) HN2.out (by decide) HB3.out.size ?_
                intro g2 cap2 X4 ho hg hl
                simp only [Act.put]
                refine hK _ _ ?_
                clear hK K
                have HB4 := Lib.hid (row_grown HB3.out hg (ownsRow_ge H51.out (by rfl)).1 (Nat.le_refl _))
                have H54 := Lib.hid ho
                clear ho hg hl H51 HN
                refine wpAny_ready (rs := [7]) (by kernel_rfl) (by simp) ?_
                refine AllReady.cons rfl (fun K hK => ?_) AllReady.nil
                go_simp
                refine hK _ _ ?_
                clear hK K
                refine wpAny_ready (rs := [8]) (by kernel_rfl) (by simp) ?_
                refine AllReady.cons rfl (fun K hK => ?_) AllReady.nil
                have c3 := (HX.out.step HB4.out).bx.b1.cell 3 _ rfl
                have f3 := (HX.out.step HB4.out).bx.b1.fz 3 (by decide)
                go_simp
                refine hK _ _ ?_
                clear hK K c3 f3
                refine wpAny_done (by kernel_rfl) ?_ _
                have HZ := Lib.hid (WEnd.of HX.out HB4.out H54.out)
                generalize X4.setCell ⟨W.heap.size, 3, none⟩ (.slice (some ⟨g2, 0, none⟩) (wh.length + 1) cap2) = Z at *
                have HX := Lib.hid (show Bp W Z W.heap.size (W.heap.size + 1 + 1) (W.heap.size + 1) [.slice a1 su.length a3, .slice (some ⟨g3, 0, none⟩) se.length cap3, .slice (some ⟨g5, 0, none⟩) (at_.length + 1) cap5, .slice (some ⟨g2, 0, none⟩) (wh.length + 1) cap2, .bool false, .int .i64 f2] zero6 p from HZ.out.bp)
                have HS2 := Lib.hid (ownsRow_of_block HRW.out (fun g hg => HZ.out.old g (ownsRow_ge HRW.out hg).2 (fun e => row_out HRW.out HLT.out.1 (e ▸ hg))))
                have HA2 := Lib.hid (ownsRow_of_block HRA.out (fun g hg => HZ.out.old g (ownsRow_ge HRA.out hg).2 (fun e => row_out HRA.out HLT.out.1 (e ▸ hg))))
                have HW2 := Lib.hid (row_base HZ.out.row HB1Y.out)
                go_wp2_with (first
                  | (refine wpList_load102 (e1 := W.heap.size) (cs1 := [.slice a1 su.length a3, .slice (some ⟨g3, 0, none⟩) se.length cap3, .slice (some ⟨g5, 0, none⟩) (at_.length + 1) cap5, .slice (some ⟨g2, 0, none⟩) (wh.length + 1) cap2, .bool false, .int .i64 f2]) (by rfl) (.tmp 3) (by rfl) ?_ ?_ ?_; exact HX.out.bx.b1; rfl)
                  | (refine wpList_store102 (e1 := W.heap.size + 1 + 1) (cs1 := zero6) (by rfl) (.tmp 6) (.tmp 56) (by rfl) [.slice a1 su.length a3, .slice (some ⟨g3, 0, none⟩) se.length cap3, .slice (some ⟨g5, 0, none⟩) (at_.length + 1) cap5, .slice (some ⟨g2, 0, none⟩) (wh.length + 1) cap2, .bool false, .int .i64 f2] ?_ ?_ ?_ ?_ ?_ ?_; exact HX.out.bx.b2; rfl; rfl; rfl; simp [Value.oneCell']))
                have HX := Lib.hid (HX.out.set2 [.slice a1 su.length a3, .slice (some ⟨g3, 0, none⟩) se.length cap3, .slice (some ⟨g5, 0, none⟩) (at_.length + 1) cap5, .slice (some ⟨g2, 0, none⟩) (wh.length + 1) cap2, .bool false, .int .i64 f2] rfl)
                have HFIN := Lib.hid (wr_final HR.out hB HX.out.bx.below k p HP.out HBW.out (row_set_far HS2.out _ _ _ (row_out HS2.out HLT.out.2.2)) (row_set_far HA2.out _ _ _ (row_out HA2.out HLT.out.2.2)) (row_set_far HW2.out _ _ _ (row_out HW2.out HLT.out.2.2)) HFW.out false f2)
                exact bodyPost_ret (results_cell2 (p := 6) (u := 7) (ty := 102) rfl _ _ ⟨W.heap.size + 1 + 1, 0, none⟩ _ _ rfl HX.out.bx.b2.load rfl) rfl ⟨_, _, _, _, rfl, HFIN.out.1, HX.out.bx.below, HFIN.out.2⟩
              · rw [if_pos (by rfl)]
                refine wp_one99 _ (by rfl) p HP.out (by rfl) ?_
                simp only [Act.put, List.setIfInBounds_toArray]
                refine hK _ _ ?_
                clear hK K
                have HN := Lib.hid (Buf.new X1 p (p.map bv).toArray 55 rfl HP.out)
                have HNE := Lib.hid (show X1.heap.size ≠ e0 from Nat.ne_of_gt (ownsRow_ge HE.out (by rfl)).2)
                have HE := Lib.hid (row_more HE.out (.cells (p.map bv).toArray 55))
                have HB2 := Lib.hid (HB1.out.alloc HB1.out.size (.cells (p.map bv).toArray 55))
                generalize X1.heap.size = b5 at *
                generalize X1.alloc (.cells (p.map bv).toArray 55) = X2 at *
                refine wpAny_ready (rs := [3]) (by kernel_rfl) (by simp) ?_
                refine AllReady.cons rfl (fun K hK => ?_) AllReady.nil
                rw [if_pos (by rfl)]
                refine wp_app_row HL.out _ _ (by rfl) HE.out (rowSrc_row (row_below (row_below HR.out.what HX.out.bx.below) HB2.out) (psC_cell _)) (by rfl) (by rfl) HN1.out (by decide) HB2.out.size ?_
                intro g1 cap1 X3 ho hg hl
                simp only [Nat.zero_add] at ho ⊢
                rw [List.nil_append] at ho
                simp only [Act.put]
                refine hK _ _ ?_
                clear hK K
                have HB3 := Lib.hid (row_grown HB2.out hg (ownsRow_ge HE.out (by rfl)).1 (Nat.le_refl _))
                have HN := Lib.hid (HN.out.of_block6 (hg.block b5 HN.out.lt (fun e => HNE.out (by injection e))) (Nat.lt_of_lt_of_le HN.out.lt hg.size))
                have H51 := Lib.hid ho
                clear ho hg hl HE
                refine wpAny_ready (rs := [6]) (by kernel_rfl) (by simp) ?_
                refine AllReady.cons rfl (fun K hK => ?_) AllReady.nil
                rw [if_pos (by rfl)]
                refine wp_app_row HL.out _ _ (by rfl) H51.out (buf_src HN.out) (by rfl) (by rfl) HN2.out (by decide) HB3.out.size ?_
                intro g2 cap2 X4 ho hg hl
                simp only [Act.put]
                refine hK _ _ ?_
                clear hK K
                have HB4 := Lib.hid (row_grown HB3.out hg (ownsRow_ge H51.out (by rfl)).1 (Nat.le_refl _))
                have H54 := Lib.hid ho
                clear ho hg hl H51 HN
                refine wpAny_ready (rs := [7]) (by kernel_rfl) (by simp) ?_
                refine AllReady.cons rfl (fun K hK => ?_) AllReady.nil
                go_simp
                refine hK _ _ ?_
                clear hK K
                refine wpAny_ready (rs := [8]) (by kernel_rfl) (by simp) ?_
                refine AllReady.cons rfl (fun K hK => ?_) AllReady.nil
                have c3 := (HX.out.step HB4.out).bx.b1.cell 3 _ rfl
                have f3 := (HX.out.step HB4.out).bx.b1.fz 3 (by decide)
                go_simp
                refine hK _ _ ?_
                clear hK K c3 f3
                refine wpAny_done (by kernel_rfl) ?_ _
                have HZ := Lib.hid (WEnd.of HX.out HB4.out H54.out)
                generalize X4.setCell ⟨W.heap.size, 3, none⟩ (.slice (some ⟨g2, 0, none⟩) (wh.length + 1) cap2) = Z at *
                have HX := Lib.hid (show Bp W Z W.heap.size (W.heap.size + 1 + 1) (W.heap.size + 1) [.slice a1 su.length a3, .slice (some ⟨g3, 0, none⟩) se.length cap3, .slice (some ⟨g5, 0, none⟩) (at_.length + 1) cap5, .slice (some ⟨g2, 0, none⟩) (wh.length + 1) cap2, .bool false, .int .i64 f2] zero6 p from HZ.out.bp)
                have HS2 := Lib.hid (ownsRow_of_block HRW.out (fun g hg => HZ.out.old g (ownsRow_ge HRW.out hg).2 (fun e => row_out HRW.out HLT.out.1 (e ▸ hg))))
                have HA2 := Lib.hid (ownsRow_of_block HRA.out (fun g hg => HZ.out.old g (ownsRow_ge HRA.out hg).2 (fun e => row_out HRA.out HLT.out.1 (e ▸ hg))))
                have HW2 := Lib.hid (row_base HZ.out.row HB1Y.out)
                go_wp2_with (first
                  | (refine wpList_load102 (e1 := W.heap.size) (cs1 := [.slice a1 su.length a3, .slice (some ⟨g3, 0, none⟩) se.length cap3, .slice (some ⟨g5, 0, none⟩) (at_.length + 1) cap5, .slice (some ⟨g2, 0, none⟩) (wh.length + 1) cap2, .bool false, .int .i64 f2]) (by rfl) (.tmp 3) (by rfl) ?_ ?_ ?_; exact HX.out.bx.b1; rfl)
                  | (refine wpList_store102 (e1 := W.heap.size + 1 + 1) (cs1 := zero6) (by rfl) (.tmp 6) (.tmp 56) (by rfl) [.slice a1 su.length a3, .slice (some ⟨g3, 0, none⟩) se.length cap3, .slice (some ⟨g5, 0, none⟩) (at_.length + 1) cap5, .slice (some ⟨g2, 0, none⟩) (wh.length + 1) cap2, .bool false, .int .i64 f2] ?_ ?_ ?_ ?_ ?_ ?_; exact HX.out.bx.b2; rfl; rfl; rfl; simp [Value.oneCell']))
                have HX := Lib.hid (HX.out.set2 [.slice a1 su.length a3, .slice (some ⟨g3, 0, none⟩) se.length cap3, .slice (some ⟨g5, 0, none⟩) (at_.length + 1) cap5, .slice (some ⟨g2, 0, none⟩) (wh.length + 1) cap2, .bool false, .int .i64 f2] rfl)
                have HFIN := Lib.hid (wr_final HR.out hB HX.out.bx.below k p HP.out HBW.out (row_set_far HS2.out _ _ _ (row_out HS2.out HLT.out.2.2)) (row_set_far HA2.out _ _ _ (row_out HA2.out HLT.out.2.2)) (row_set_far HW2.out _ _ _ (row_out HW2.out HLT.out.2.2)) HFW.out false f2)
                exact bodyPost_ret (results_cell2 (p := 6) (u := 7) (ty := 102) rfl _ _ ⟨W.heap.size + 1 + 1, 0, none⟩ _ _ rfl HX.out.bx.b2.load rfl) rfl ⟨_, _, _, _, rfl, HFIN.out.1, HX.out.bx.below, HFIN.out.2⟩
            · rw [if_pos (by rfl)]
              refine wp_one99 _ (by rfl) p HP.out (by rfl) ?_
              simp only [Act.put, List.setIfInBounds_toArray]
              refine hK _ _ ?_
              clear hK K
              have HN := Lib.hid (Buf.new X1 p (p.map bv).toArray 55 rfl HP.out)
              have HNE := Lib.hid (show X1.heap.size ≠ e0 from Nat.ne_of_gt (ownsRow_ge HE.out (by rfl)).2)
              have HE := Lib.hid (row_more HE.out (.cells (p.map bv).toArray 55))
              have HB2 := Lib.hid (HB1.out.alloc HB1.out.size (.cells (p.map bv).toArray 55))
              generalize X1.heap.size = b5 at *
              generalize X1.alloc (.cells (p.map bv).toArray 55) = X2 at *
              refine wpAny_ready (rs := [2]) (by kernel_rfl) (by simp) ?_
              refine AllReady.cons rfl (fun K hK => ?_) AllReady.nil
              have c2 : X2.cell? ⟨W.heap.size, 3, none⟩ = some (.slice d1 wh.length d3) := (HX.out.step HB2.out).bx.b1.cell 3 _ rfl
              go_simp
              refine hK _ _ ?_
              clear hK K c2
              refine wpAny_ready (rs := [3]) (by kernel_rfl) (by simp) ?_
              refine AllReady.cons rfl (fun K hK => ?_) AllReady.nil
              rw [if_pos (by rfl)]
              refine wp_app_row HL.out _ _ (by rfl) HE.out (rowSrc_row (row_below (row_below HR.out.what HX.out.bx.below) HB2.out) (psC_cell _)) (by rfl) (by rfl) HN1.out (by decide) HB2.out.size ?_
              intro g1 cap1 X3 ho hg hl
              simp only [Nat.zero_add] at ho ⊢
              rw [List.nil_append] at ho
              simp only [Act.put, List.setIfInBounds_toArray]
              refine hK _ _ ?_
              clear hK K
              have HB3 := Lib.hid (row_grown HB2.out hg (ownsRow_ge HE.out (by rfl)).1 (Nat.le_refl _))
              have HN := Lib.hid (HN.out.of_block6 (hg.block b5 HN.out.lt (fun e => HNE.out (by injection e))) (Nat.lt_of_lt_of_le HN.out.lt hg.size))
              have H51 := Lib.hid ho
              clear ho hg hl HE
              refine wpAny_ready (rs := [6]) (by kernel_rfl) (by simp) ?_
              refine AllReady.cons rfl (fun K hK => ?_) AllReady.nil
              rw [if_pos (by rfl)]
              refine wp_app_row HL.out _ _ (by rfl) H51.out (buf_src HN.out) (by rfl) (by rfl) HN2.out (by decide) HB3.out.size ?_
              intro g2 cap2 X4 ho hg hl
              simp only [Act.put]
              refine hK _ _ ?_
              clear hK K
              have HB4 := Lib.hid (row_grown HB3.out hg (ownsRow_ge H51.out (by rfl)).1 (Nat.le_refl _))
              have H54 := Lib.hid ho
              clear ho hg hl H51 HN
              refine wpAny_ready (rs := [7]) (by kernel_rfl) (by simp) ?_
              refine AllReady.cons rfl (fun K hK => ?_) AllReady.nil
              go_simp
              refine hK _ _ ?_
              clear hK K
              refine wpAny_ready (rs := [8]) (by kernel_rfl) (by simp) ?_
              refine AllReady.cons rfl (fun K hK => ?_) AllReady.nil
              have c3 := (HX.out.step HB4.out).bx.b1.cell 3 _ rfl
              have f3 := (HX.out.step HB4.out).bx.b1.fz 3 (by decide)
              go_simp
              refine hK _ _ ?_
              clear hK K c3 f3
              refine wpAny_done (by kernel_rfl) ?_ _
              have HZ := Lib.hid (WEnd.of HX.out HB4.out H54.out)
              generalize X4.setCell ⟨W.heap.size, 3, none⟩ (.slice (some ⟨g2, 0, none⟩) (wh.length + 1) cap2) = Z at *
              have HX := Lib.hid (show Bp W Z W.heap.size (W.heap.size + 1 + 1) (W.heap.size + 1) [.slice a1 su.length a3, .slice (some ⟨g3, 0, none⟩) se.length cap3, .slice (some ⟨g5, 0, none⟩) (at_.length + 1) cap5, .slice (some ⟨g2, 0, none⟩) (wh.length + 1) cap2, .bool false, .int .i64 f2] zero6 p from HZ.out.bp)
              have HS2 := Lib.hid (ownsRow_of_block HRW.out (fun g hg => HZ.out.old g (ownsRow_ge HRW.out hg).2 (fun e => row_out HRW.out HLT.out.1 (e ▸ hg))))
              have HA2 := Lib.hid (ownsRow_of_block HRA.out (fun g hg => HZ.out.old g (ownsRow_ge HRA.out hg).2 (fun e => row_out HRA.out HLT.out.1 (e ▸ hg))))
              have HW2 := Lib.hid (row_base HZ.out.row HB1Y.out)
              go_wp2_with (first
                | (refine wpList_load102 (e1 := W.heap.size) (cs1 := [.slice a1 su.length a3, .slice (some ⟨g3, 0, none⟩) se.length cap3, .slice (some ⟨g5, 0, none⟩) (at_.length + 1) cap5, .slice (some ⟨g2, 0, none⟩) (wh.length + 1) cap2, .bool false, .int .i64 f2]) (by rfl) (.tmp 3) (by rfl) ?_ ?_ ?_; exact HX.out.bx.b1; rfl)
                | (refine wpList_store102 (e1 := W.heap.size + 1 + 1) (cs1 := zero6) (by rfl) (.tmp 6) (.tmp 56) (by rfl) [.slice a1 su.length a3, .slice (some ⟨g3, 0, none⟩) se.length cap3, .slice (some ⟨g5, 0, none⟩) (at_.length + 1) cap5, .slice (some ⟨g2, 0, none⟩) (wh.length + 1) cap2, .bool false, .int .i64 f2] ?_ ?_ ?_ ?_ ?_ ?_; exact HX.out.bx.b2; rfl; rfl; rfl; simp [Value.oneCell']))
              have HX := Lib.hid (HX.out.set2 [.slice a1 su.length a3, .slice (some ⟨g3, 0, none⟩) se.length cap3, .slice (some ⟨g5, 0, none⟩) (at_.length + 1) cap5, .slice (some ⟨g2, 0, none⟩) (wh.length + 1) cap2, .bool false, .int .i64 f2] rfl)
              have HFIN := Lib.hid (wr_final HR.out hB HX.out.bx.below k p HP.out HBW.out (row_set_far HS2.out _ _ _ (row_out HS2.out HLT.out.2.2)) (row_set_far HA2.out _ _ _ (row_out HA2.out HLT.out.2.2)) (row_set_far HW2.out _ _ _ (row_out HW2.out HLT.out.2.2)) HFW.out false f2)
              exact bodyPost_ret (results_cell2 (p := 6) (u := 7) (ty := 102) rfl _ _ ⟨W.heap.size + 1 + 1, 0, none⟩ _ _ rfl HX.out.bx.b2.load rfl) rfl ⟨_, _, _, _, rfl, HFIN.out.1, HX.out.bx.below, HFIN.out.2⟩
          · have c2 : X0.cell? ⟨W.heap.size, 3, none⟩ = some (.slice d1 wh.length d3) := (HX.out.step HB0.out).bx.b1.cell 3 _ rfl
            go_simp
            refine hK _ _ ?_
            clear hK K c2
            refine wpAny_ready (rs := [0, 5]) (by kernel_rfl) (by simp) ?_
            refine AllReady.cons rfl (fun K hK => ?_) (AllReady.cons rfl (fun K hK => ?_) AllReady.nil)
            · go_simp
              refine hK _ _ ?_
              clear hK K
              have HE := Lib.hid (no_row X0 Y.heap.size HB0.out.size 55 64)
              have HB1 := Lib.hid (HB0.out.alloc HB0.out.size (.cells #[] 55))
              generalize X0.heap.size = e0 at *
              generalize X0.alloc (.cells #[] 55) = X1 at *
              refine wpAny_ready (rs := [3, 5]) (by kernel_rfl) (by simp) ?_
              refine AllReady.cons rfl (fun K hK => ?_) (AllReady.cons rfl (fun K hK => ?_) AllReady.nil)
              · rw [if_pos (by rfl)]
                refine wp_app_row HL.out _ _ (by rfl) HE.out (rowSrc_row (row_below (row_below HR.out.what HX.out.bx.below) HB1.out) (psC_cell _)) (by rfl) (by rfl) HN1.out (by decide) HB1.out.size ?_
                intro g1 cap1 X2 ho hg hl
                simp only [Nat.zero_add] at ho ⊢
                rw [List.nil_append] at ho
                simp only [Act.put, List.setIfInBounds_toArray]
                refine hK _ _ ?_
                clear hK K
                have HB2 := Lib.hid (row_grown HB1.out hg (ownsRow_ge HE.out (by rfl)).1 (Nat.le_refl _))
                have H51 := Lib.hid ho
                clear ho hg hl HE
                refine wpAny_ready (rs := [5]) (by kernel_rfl) (by simp) ?_
                refine AllReady.cons rfl (fun K hK => ?_) AllReady.nil
                rw [if_pos (by rfl)]
                refine wp_one99 _ (by rfl) p HP.out (by rfl) ?_
                simp only [Act.put]
                refine hK _ _ ?_
                clear hK K
                have HN := Lib.hid (Buf.new X2 p (p.map bv).toArray 55 rfl HP.out)
                have H51 := Lib.hid (row_more H51.out (.cells (p.map bv).toArray 55))
                have HB3 := Lib.hid (HB2.out.alloc HB2.out.size (.cells (p.map bv).toArray 55))
                generalize X2.heap.size = b5 at *
                generalize X2.alloc (.cells (p.map bv).toArray 55) = X3 at *
                refine wpAny_ready (rs := [6]) (by kernel_rfl) (by simp) ?_
                refine AllReady.cons rfl (fun K hK => ?_) AllReady.nil
                rw [if_pos (by rfl)]
                refine wp_app_row HL.out _ _ (by rfl) H51.out (buf_src HN.out) (by rfl) (by rfl) HN2.out (by decide) HB3.out.size ?_
                intro g2 cap2 X4 ho hg hl
                simp only [Act.put]
                refine hK _ _ ?_
                clear hK K
                have HB4 := Lib.hid (row_grown HB3.out hg (ownsRow_ge H51.out (by rfl)).1 (Nat.le_refl _))
                have H54 := Lib.hid ho
                clear ho hg hl H51 HN
                refine wpAny_ready (rs := [7]) (by kernel_rfl) (by simp) ?_
                refine AllReady.cons rfl (fun K hK => ?_) AllReady.nil
                go_simp
                refine hK _ _ ?_
                clear hK K
                refine wpAny_ready (rs := [8]) (by kernel_rfl) (by simp) ?_
                refine AllReady.cons rfl (fun K hK => ?_) AllReady.nil
                have c3 := (HX.out.step HB4.out).bx.b1.cell 3 _ rfl
                have f3 := (HX.out.step HB4.out).bx.b1.fz 3 (by decide)
                go_simp
                refine hK _ _ ?_
                clear hK K c3 f3
                refine wpAny_done (by kernel_rfl) ?_ _
                have HZ := Lib.hid (WEnd.of HX.out HB4.out H54.out)
                generalize X4.setCell ⟨W.heap.size, 3, none⟩ (.slice (some ⟨g2, 0, none⟩) (wh.length + 1) cap2) = Z at *
                have HX := Lib.hid (show Bp W Z W.heap.size (W.heap.size + 1 + 1) (W.heap.size + 1) [.slice a1 su.length a3, .slice (some ⟨g3, 0, none⟩) se.length cap3, .slice (some ⟨g5, 0, none⟩) (at_.length + 1) cap5, .slice (some ⟨g2, 0, none⟩) (wh.length + 1) cap2, .bool false, .int .i64 f2] zero6 p from HZ.out.bp)
                have HS2 := Lib.hid (ownsRow_of_block HRW.out (fun g hg => HZ.out.old g (ownsRow_ge HRW.out hg).2 (fun e => row_out HRW.out HLT.out.1 (e ▸ hg))))
                have HA2 := Lib.hid (ownsRow_of_block HRA.out (fun g hg => HZ.out.old g (ownsRow_ge HRA.out hg).2 (fun e => row_out HRA.out HLT.out.1 (e ▸ hg))))
                have HW2 := Lib.hid (row_base HZ.out.row HB1Y.out)
                go_wp2_with (first
                  | (refine wpList_load102 (e1 := W.heap.size) (cs1 := [.slice a1 su.length a3, .slice (some ⟨g3, 0, none⟩) se.length cap3, .slice (some ⟨g5, 0, none⟩) (at_.length + 1) cap5, .slice (some ⟨g2, 0, none⟩) (wh.length + 1) cap2, .bool false, .int .i64 f2]) (by rfl) (.tmp 3) (by rfl) ?_ ?_ ?_; exact HX.out.bx.b1; rfl)
                  | (refine wpList_store102 (e1 := W.heap.size + 1 + 1) (cs1 := zero6) (by rfl) (.tmp 6) (.tmp 56) (by rfl) [.slice a1 su.length a3, .slice (some ⟨g3, 0, none⟩) se.length cap3, .slice (some ⟨g5, 0, none⟩) (at_.length + 1) cap5, .slice (some ⟨g2, 0, none⟩) (wh.length + 1) cap2, .bool false, .int .i64 f2] ?_ ?_ ?_ ?_ ?_ ?_; exact HX.out.bx.b2; rfl; rfl; rfl; simp [Value.oneCell']))
                have HX := Lib.hid (HX.out.set2 [.slice a1 su.length a3, .slice (some ⟨g3, 0, none⟩) se.length cap3, .slice (some ⟨g5, 0, none⟩) (at_.length + 1) cap5, .slice (some ⟨g2, 0, none⟩) (wh.length + 1) cap2, .bool false, .int .i64 f2] rfl)
                have HFIN := Lib.hid (wr_final HR.out hB HX.out.bx.below k p HP.out HBW.out (row_set_far HS2.out _ _ _ (row_out HS2.out HLT.out.2.2)) (row_set_far HA2.out _ _ _ (row_out HA2.out HLT.out.2.2)) (row_set_far HW2.out _ _ _ (row_out HW2.out HLT.out.2.2)) HFW.out false f2)
                exact bodyPost_ret (results_cell2 (p := 6) (u := 7) (ty := 102) rfl _ _ ⟨W.heap.size + 1 + 1, 0, none⟩ _ _ rfl HX.out.bx.b2.load rfl) rfl ⟨_, _, _, _, rfl, HFIN.out.1, HX.out.bx.below, HFIN.out.2⟩
              · rw [if_pos (by rfl)]
                refine wp_one99 _ (by rfl) p HP.out (by rfl) ?_
                simp only [Act.put, List.setIfInBounds_toArray]
                refine hK _ _ ?_
                clear hK K
                have HN := Lib.hid (Buf.new X1 p (p.map bv).toArray 55 rfl HP.out)
                have HNE := Lib.hid (show X1.heap.size ≠ e0 from Nat.ne_of_gt (ownsRow_ge HE.out (by rfl)).2)
                have HE := Lib.hid (row_more HE.out (.cells (p.map bv).toArray 55))
                have HB2 := Lib.hid (HB1.out.alloc HB1.out.size (.cells (p.map bv).toArray 55))
                generalize X1.heap.size = b5 at *
                generalize X1.alloc (.cells (p.map bv).toArray 55) = X2 at *
                refine wpAny_ready (rs := [3]) (by kernel_rfl) (by simp) ?_
                refine AllReady.cons rfl (fun K hK => ?_) AllReady.nil
                rw [if_pos (by rfl)]
                refine wp_app_row HL.out _ _ (by rfl) HE.out (rowSrc_row (row_below (row_below HR.out.what HX.out.bx.below) HB2.out) (psC_cell _)) (by rfl) (by rfl) HN1.out (by decide) HB2.out.size ?_
                intro g1 cap1 X3 ho hg hl
                simp only [Nat.zero_add] at ho ⊢
                rw [List.nil_append] at ho
                simp only [Act.put]
                refine hK _ _ ?_
                clear hK K
                have HB3 := Lib.hid (row_grown HB2.out hg (ownsRow_ge HE.out (by rfl)).1 (Nat.le_refl _))
                have HN := Lib.hid (HN.out.of_block6 (hg.block b5 HN.out.lt (fun e => HNE.out (by injection e))) (Nat.lt_of_lt_of_le HN.out.lt hg.size))
                have H51 := Lib.hid ho
                clear ho hg hl HE
                refine wpAny_ready (rs := [6]) (by kernel_rfl) (by simp) ?_
                refine AllReady.cons rfl (fun K hK => ?_) AllReady.nil
                rw [if_pos (by rfl)]
                refine wp_app_row HL.out _ _ (by rfl) H51.out (buf_src HN.out) (by rfl) (by rfl) HN2.out (by decide) HB3.out.size ?_
                intro g2 cap2 X4 ho hg hl
                simp only [Act.put]
                refine hK _ _ ?_
                clear hK K
                have HB4 := Lib.hid (row_grown HB3.out hg (ownsRow_ge H51.out (by rfl)).1 (Nat.le_refl _))
                have H54 := Lib.hid ho
                clear ho hg hl H51 HN
                refine wpAny_ready (rs := [7]) (by kernel_rfl) (by simp) ?_
                refine AllReady.cons rfl (fun K hK => ?_) AllReady.nil
                go_simp
                refine hK _ _ ?_
                clear hK K
                refine wpAny_ready (rs := [8]) (by kernel_rfl) (by simp) ?_
                refine AllReady.cons rfl (fun K hK => ?_) AllReady.nil
                have c3 := (HX.out.step HB4.out).bx.b1.cell 3 _ rfl
                have f3 := (HX.out.step HB4.out).bx.b1.fz 3 (by decide)
                go_simp
                refine hK _ _ ?_
                clear hK K c3 f3
                refine wpAny_done (by kernel_rfl) ?_ _
                have HZ := Lib.hid (WEnd.of HX.out HB4.out H54.out)
                generalize X4.setCell ⟨W.heap.size, 3, none⟩ (.slice (some ⟨g2, 0, none⟩) (wh.length + 1) cap2) = Z at *
                have HX := Lib.hid (show Bp W Z W.heap.size (W.heap.size + 1 + 1) (W.heap.size + 1) [.slice a1 su.length a3, .slice (some ⟨g3, 0, none⟩) se.length cap3, .slice (some ⟨g5, 0, none⟩) (at_.length + 1) cap5, .slice (some ⟨g2, 0, none⟩) (wh.length + 1) cap2, .bool false, .int .i64 f2] zero6 p from HZ.out.bp)
                have HS2 := Lib.hid (ownsRow_of_block HRW.out (fun g hg => HZ.out.old g (ownsRow_ge HRW.out hg).2 (fun e => row_out HRW.out HLT.out.1 (e ▸ hg))))
                have HA2 := Lib.hid (ownsRow_of_block HRA.out (fun g hg => HZ.out.old g (ownsRow_ge HRA.out hg).2 (fun e => row_out HRA.out HLT.out.1 (e ▸ hg))))
                have HW2 := Lib.hid (row_base HZ.out.row HB1Y.out)
                go_wp2_with (first
                  | (refine wpList_load102 (e1 := W.heap.size) (cs1 := [.slice a1 su.length a3, .slice (some ⟨g3, 0, none⟩) se.length cap3, .slice (some ⟨g5, 0, none⟩) (at_.length + 1) cap5, .slice (some ⟨g2, 0, none⟩) (wh.length + 1) cap2, .bool false, .int .i64 f2]) (by rfl) (.tmp 3) (by rfl) ?_ ?_ ?_; exact HX.out.bx.b1; rfl)
                  | (refine wpList_store102 (e1 := W.heap.size + 1 + 1) (cs1 := zero6) (by rfl) (.tmp 6) (.tmp 56) (by rfl) [.slice a1 su.length a3, .slice (some ⟨g3, 0, none⟩) se.length cap3, .slice (some ⟨g5, 0, none⟩) (at_.length + 1) cap5, .slice (some ⟨g2, 0, none⟩) (wh.length + 1) cap2, .bool false, .int .i64 f2] ?_ ?_ ?_ ?_ ?_ ?_; exact HX.out.bx.b2; rfl; rfl; rfl; simp [Value.oneCell']))
                have HX := Lib.hid (HX.out.set2 [.slice a1 su.length a3, .slice (some ⟨g3, 0, none⟩) se.length cap3, .slice (some ⟨g5, 0, none⟩) (at_.length + 1) cap5, .slice (some ⟨g2, 0, none⟩) (wh.length + 1) cap2, .bool false, .int .i64 f2] rfl)
                have HFIN := Lib.hid (wr_final HR.out hB HX.out.bx.below k p HP.out HBW.out (row_set_far HS2.out _ _ _ (row_out HS2.out HLT.out.2.2)) (row_set_far HA2.out _ _ _ (row_out HA2.out HLT.out.2.2)) (row_set_far HW2.out _ _ _ (row_out HW2.out HLT.out.2.2)) HFW.out false f2)
                exact bodyPost_ret (results_cell2 (p := 6) (u := 7) (ty := 102) rfl _ _ ⟨W.heap.size + 1 + 1, 0, none⟩ _ _ rfl HX.out.bx.b2.load rfl) rfl ⟨_, _, _, _, rfl, HFIN.out.1, HX.out.bx.below, HFIN.out.2⟩
            · rw [if_pos (by rfl)]
              refine wp_one99 _ (by rfl) p HP.out (by rfl) ?_
              simp only [Act.put, List.setIfInBounds_toArray]
              refine hK _ _ ?_
              clear hK K
              have HN := Lib.hid (Buf.new X0 p (p.map bv).toArray 55 rfl HP.out)
              have HB1 := Lib.hid (HB0.out.alloc HB0.out.size (.cells (p.map bv).toArray 55))
              generalize X0.heap.size = b5 at *
              generalize X0.alloc (.cells (p.map bv).toArray 55) = X1 at *
              refine wpAny_ready (rs := [0]) (by kernel_rfl) (by simp) ?_
              refine AllReady.cons rfl (fun K hK => ?_) AllReady.nil
              go_simp
              refine hK _ _ ?_
              clear hK K
              have HE := Lib.hid (no_row X1 Y.heap.size HB1.out.size 55 64)
              have HNE := Lib.hid (show b5 ≠ X1.heap.size from Nat.ne_of_lt HN.out.lt)
              have HN := Lib.hid (HN.out.alloc (.cells #[] 55))
              have HB2 := Lib.hid (HB1.out.alloc HB1.out.size (.cells #[] 55))
              generalize X1.heap.size = e0 at *
              generalize X1.alloc (.cells #[] 55) = X2 at *
              refine wpAny_ready (rs := [3]) (by kernel_rfl) (by simp) ?_
              refine AllReady.cons rfl (fun K hK => ?_) AllReady.nil
              rw [if_pos (by rfl)]
              refine wp_app_row HL.out _ _ (by rfl) HE.out (rowSrc_row (row_below (row_below HR.out.what HX.out.bx.below) HB2.out) (psC_cell _)) (by rfl) (by rfl) HN1.out (by decide) HB2.out.size ?_
              intro g1 cap1 X3 ho hg hl
              simp only [Nat.zero_add] at ho ⊢
              rw [List.nil_append] at ho
              simp only [Act.put, List.setIfInBounds_toArray]
              refine hK _ _ ?_
              clear hK K
              have HB3 := Lib.hid (row_grown HB2.out hg (ownsRow_ge HE.out (by rfl)).1 (Nat.le_refl _))
              have HN := Lib.hid (HN.out.of_block6 (hg.block b5 HN.out.lt (fun e => HNE.out (by injection e))) (Nat.lt_of_lt_of_le HN.out.lt hg.size))
              have H51 := Lib.hid ho
              clear ho hg hl HE
              refine wpAny_ready (rs := [6]) (by kernel_rfl) (by simp) ?_
              refine AllReady.cons rfl (fun K hK => ?_) AllReady.nil
              rw [if_pos (by rfl)]
              refine wp_app_row HL.out _ _ (by rfl) H51.out (buf_src HN.out) (by rfl) (by rfl) HN2.out (by decide) HB3.out.size ?_
              intro g2 cap2 X4 ho hg hl
              simp only [Act.put]
              refine hK _ _ ?_
              clear hK K
              have HB4 := Lib.hid (row_grown HB3.out hg (ownsRow_ge H51.out (by rfl)).1 (Nat.le_refl _))
              have H54 := Lib.hid ho
              clear ho hg hl H51 HN
              refine wpAny_ready (rs := [7]) (by kernel_rfl) (by simp) ?_
              refine AllReady.cons rfl (fun K hK => ?_) AllReady.nil
              go_simp
              refine hK _ _ ?_
              clear hK K
              refine wpAny_ready (rs := [8]) (by kernel_rfl) (by simp) ?_
              refine AllReady.cons rfl (fun K hK => ?_) AllReady.nil
              have c3 := (HX.out.step HB4.out).bx.b1.cell 3 _ rfl
              have f3 := (HX.out.step HB4.out).bx.b1.fz 3 (by decide)
              go_simp
              refine hK _ _ ?_
              clear hK K c3 f3
              refine wpAny_done (by kernel_rfl) ?_ _
              have HZ := Lib.hid (WEnd.of HX.out HB4.out H54.out)
              generalize X4.setCell ⟨W.heap.size, 3, none⟩ (.slice (some ⟨g2, 0, none⟩) (wh.length + 1) cap2) = Z at *
              have HX := Lib.hid (show Bp W Z W.heap.size (W.heap.size + 1 + 1) (W.heap.size + 1) [.slice a1 su.length a3, .slice (some ⟨g3, 0, none⟩) se.length cap3, .slice (some ⟨g5, 0, none⟩) (at_.length + 1) cap5, .slice (some ⟨g2, 0, none⟩) (wh.length + 1) cap2, .bool false, .int .i64 f2] zero6 p from HZ.out.bp)
              have HS2 := Lib.hid (ownsRow_of_block HRW.out (fun g hg => HZ.out.old g (ownsRow_ge HRW.out hg).2 (fun e => row_out HRW.out HLT.out.1 (e ▸ hg))))
              have HA2 := Lib.hid (ownsRow_of_block HRA.out (fun g hg => HZ.out.old g (ownsRow_ge HRA.out hg).2 (fun e => row_out HRA.out HLT.out.1 (e ▸ hg))))
              have HW2 := Lib.hid (row_base HZ.out.row HB1Y.out)
              go_wp2_with (first
                | (refine wpList_load102 (e1 := W.heap.size) (cs1 := [.slice a1 su.length a3, .slice (some ⟨g3, 0, none⟩) se.length cap3, .slice (some ⟨g5, 0, none⟩) (at_.length + 1) cap5, .slice (some ⟨g2, 0, none⟩) (wh.length + 1) cap2, .bool false, .int .i64 f2]) (by rfl) (.tmp 3) (by rfl) ?_ ?_ ?_; exact HX.out.bx.b1; rfl)
                | (refine wpList_store102 (e1 := W.heap.size + 1 + 1) (cs1 := zero6) (by rfl) (.tmp 6) (.tmp 56) (by rfl) [.slice a1 su.length a3, .slice (some ⟨g3, 0, none⟩) se.length cap3, .slice (some ⟨g5, 0, none⟩) (at_.length + 1) cap5, .slice (some ⟨g2, 0, none⟩) (wh.length + 1) cap2, .bool false, .int .i64 f2] ?_ ?_ ?_ ?_ ?_ ?_; exact HX.out.bx.b2; rfl; rfl; rfl; simp [Value.oneCell']))
              have HX := Lib.hid (HX.out.set2 [.slice a1 su.length a3, .slice (some ⟨g3, 0, none⟩) se.length cap3, .slice (some ⟨g5, 0, none⟩) (at_.length + 1) cap5, .slice (some ⟨g2, 0, none⟩) (wh.length + 1) cap2, .bool false, .int .i64 f2] rfl)
              have HFIN := Lib.hid (wr_final HR.out hB HX.out.bx.below k p HP.out HBW.out (row_set_far HS2.out _ _ _ (row_out HS2.out HLT.out.2.2)) (row_set_far HA2.out _ _ _ (row_out HA2.out HLT.out.2.2)) (row_set_far HW2.out _ _ _ (row_out HW2.out HLT.out.2.2)) HFW.out false f2)
              exact bodyPost_ret (results_cell2 (p := 6) (u := 7) (ty := 102) rfl _ _ ⟨W.heap.size + 1 + 1, 0, none⟩ _ _ rfl HX.out.bx.b2.load rfl) rfl ⟨_, _, _, _, rfl, HFIN.out.1, HX.out.bx.below, HFIN.out.2⟩
          · rw [if_pos (by rfl)]
            refine wp_one99 _ (by rfl) p HP.out (by rfl) ?_
            simp only [Act.put]
            refine hK _ _ ?_
            clear hK K
            have HN := Lib.hid (Buf.new X0 p (p.map bv).toArray 55 rfl HP.out)
            have HB1 := Lib.hid (HB0.out.alloc HB0.out.size (.cells (p.map bv).toArray 55))
            generalize X0.heap.size = b5 at *
            generalize X0.alloc (.cells (p.map bv).toArray 55) = X1 at *
            refine wpAny_ready (rs := [0, 2]) (by kernel_rfl) (by simp) ?_
            refine AllReady.cons rfl (fun K hK => ?_) (AllReady.cons rfl (fun K hK => ?_) AllReady.nil)
            · go_simp
              refine hK _ _ ?_
              clear hK K
              have HE := Lib.hid (no_row X1 Y.heap.size HB1.out.size 55 64)
              have HNE := Lib.hid (show b5 ≠ X1.heap.size from Nat.ne_of_lt HN.out.lt)
              have HN := Lib.hid (HN.out.alloc (.cells #[] 55))
              have HB2 := Lib.hid (HB1.out.alloc HB1.out.size (.cells #[] 55))
              generalize X1.heap.size = e0 at *
              generalize X1.alloc (.cells #[] 55) = X2 at *
              refine wpAny_ready (rs := [2]) (by kernel_rfl) (by simp) ?_
              refine AllReady.cons rfl (fun K hK => ?_) AllReady.nil
              have c2 : X2.cell? ⟨W.heap.size, 3, none⟩ = some (.slice d1 wh.length d3) := (HX.out.step HB2.out).bx.b1.cell 3 _ rfl
              go_simp
              refine hK _ _ ?_
              clear hK K c2
              refine wpAny_ready (rs := [3]) (by kernel_rfl) (by simp) ?_
              refine AllReady.cons rfl (fun K hK => ?_) AllReady.nil
              rw [if_pos (by rfl)]
              refine wp_app_row HL.out _ _ (by rfl) HE.out (rowSrc_row (row_below (row_below HR.out.what HX.out.bx.below) HB2.out) (psC_cell _)) (by rfl) (by rfl) HN1.out (by decide) HB2.out.size ?_
              intro g1 cap1 X3 ho hg hl
              simp only [Nat.zero_add] at ho ⊢
              rw [List.nil_append] at ho
              simp only [Act.put, List.setIfInBounds_toArray]
              refine hK _ _ ?_
              clear hK K
              have HB3 := Lib.hid (row_grown HB2.out hg (ownsRow_ge HE.out (by rfl)).1 (Nat.le_refl _))
              have HN := Lib.hid (HN.out.of_block6 (hg.block b5 HN.out.lt (fun e => HNE.out (by injection e))) (Nat.lt_of_lt_of_le HN.out.lt hg.size))
              have H51 := Lib.hid ho
              clear ho hg hl HE
              refine wpAny_ready (rs := [6]) (by kernel_rfl) (by simp) ?_
              refine AllReady.cons rfl (fun K hK => ?_) AllReady.nil
              rw [if_pos (by rfl)]
              refine wp_app_row HL.out _ _ (by rfl) H51.out (buf_src HN.out) (by rfl) (by rfl) HN2.out (by decide) HB3.out.size ?_
              intro g2 cap2 X4 ho hg hl
              simp only [Act.put]
              refine hK _ _ ?_
              clear hK K
              have HB4 := Lib.hid (row_grown HB3.out hg (ownsRow_ge H51.out (by rfl)).1 (Nat.le_refl _))
              have H54 := Lib.hid ho
              clear ho hg hl H51 HN
              refine wpAny_ready (rs := [7]) (by kernel_rfl) (by simp) ?_
              refine AllReady.cons rfl (fun K hK => ?_) AllReady.nil
              go_simp
              refine hK _ _ ?_
              clear hK K
              refine wpAny_ready (rs := [8]) (by kernel_rfl) (by simp) ?_
              refine AllReady.cons rfl (fun K hK => ?_) AllReady.nil
              have c3 := (HX.out.step HB4.out).bx.b1.cell 3 _ rfl
              have f3 := (HX.out.step HB4.out).bx.b1.fz 3 (by decide)
              go_simp
              refine hK _ _ ?_
              clear hK K c3 f3
              refine wpAny_done (by kernel_rfl) ?_ _
              have HZ := Lib.hid (WEnd.of HX.out HB4.out H54.out)
              generalize X4.setCell ⟨W.heap.size, 3, none⟩ (.slice (some ⟨g2, 0, none⟩) (wh.length + 1) cap2) = Z at *
              have HX := Lib.hid (show Bp W Z W.heap.size (W.heap.size + 1 + 1) (W.heap.size + 1) [.slice a1 su.length a3, .slice (some ⟨g3, 0, none⟩) se.length cap3, .slice (some ⟨g5, 0, none⟩) (at_.length + 1) cap5, .slice (some ⟨g2, 0, none⟩) (wh.length + 1) cap2, .bool false, .int .i64 f2] zero6 p from HZ.out.bp)
              have HS2 := Lib.hid (ownsRow_of_block HRW.out (fun g hg => HZ.out.old g (ownsRow_ge HRW.out hg).2 (fun e => row_out HRW.out HLT.out.1 (e ▸ hg))))
              have HA2 := Lib.hid (ownsRow_of_block HRA.out (fun g hg => HZ.out.old g (ownsRow_ge HRA.out hg).2 (fun e => row_out HRA.out HLT.out.1 (e ▸ hg))))
              have HW2 := Lib.hid (row_base HZ.out.row HB1Y.out)
              go_wp2_with (first
                | (refine wpList_load102 (e1 := W.heap.size) (cs1 := [.slice a1 su.length a3, .slice (some ⟨g3, 0, none⟩) se.length cap3, .slice (some ⟨g5, 0, none⟩) (at_.length + 1) cap5, .slice (some ⟨g2, 0, none⟩) (wh.length + 1) cap2, .bool false, .int .i64 f2]) (by rfl) (.tmp 3) (by rfl) ?_ ?_ ?_; exact HX.out.bx.b1; rfl)
                | (refine wpList_store102 (e1 := W.heap.size + 1 + 1) (cs1 := zero6) (by rfl) (.tmp 6) (.tmp 56) (by rfl) [.slice a1 su.length a3, .slice (some ⟨g3, 0, none⟩) se.length cap3, .slice (some ⟨g5, 0, none⟩) (at_.length + 1) cap5, .slice (some ⟨g2, 0, none⟩) (wh.length + 1) cap2, .bool false, .int .i64 f2] ?_ ?_ ?_ ?_ ?_ ?_; exact HX.out.bx.b2; rfl; rfl; rfl; simp [Value.oneCell']))
              have HX := Lib.hid (HX.out.set2 [.slice a1 su.length a3, .slice (some ⟨g3, 0, none⟩) se.length cap3, .slice (some ⟨g5, 0, none⟩) (at_.length + 1) cap5, .slice (some ⟨g2, 0, none⟩) (wh.length + 1) cap2, .bool false, .int .i64 f2] rfl)
              have HFIN := Lib.hid (wr_final HR.out hB HX.out.bx.below k p HP.out HBW.out (row_set_far HS2.out _ _ _ (row_out HS2.out HLT.out.2.2)) (row_set_far HA2.out _ _ _ (row_out HA2.out HLT.out.2.2)) (row_set_far HW2.out _ _ _ (row_out HW2.out HLT.out.2.2)) HFW.out false f2)
              exact bodyPost_ret (results_cell2 (p := 6) (u := 7) (ty := 102) rfl _ _ ⟨W.heap.size + 1 + 1, 0, none⟩ _ _ rfl HX.out.bx.b2.load rfl) rfl ⟨_, _, _, _, rfl, HFIN.out.1, HX.out.bx.below, HFIN.out.2⟩
            · have c2 : X1.cell? ⟨W.heap.size, 3, none⟩ = some (.slice d1 wh.length d3) := (HX.out.step HB1.out).bx.b1.cell 3 _ rfl
              go_simp
              refine hK _ _ ?_
              clear hK K c2
              refine wpAny_ready (rs := [0]) (by kernel_rfl) (by simp) ?_
              refine AllReady.cons rfl (fun K hK => ?_) AllReady.nil
              go_simp
              refine hK _ _ ?_
              clear hK K
              have HE := Lib.hid (no_row X1 Y.heap.size HB1.out.size 55 64)
              have HNE := Lib.hid (show b5 ≠ X1.heap.size from Nat.ne_of_lt HN.out.lt)
              have HN := Lib.hid (HN.out.alloc (.cells #[] 55))
              have HB2 := Lib.hid (HB1.out.alloc HB1.out.size (.cells #[] 55))
              generalize X1.heap.size = e0 at *
              generalize X1.alloc (.cells #[] 55) = X2 at *
              refine wpAny_ready (rs := [3]) (by kernel_rfl) (by simp) ?_
              refine AllReady.cons rfl (fun K hK => ?_) AllReady.nil
              rw [if_pos (by rfl)]
              refine wp_app_row HL.out _ _ (by rfl) HE.out (rowSrc_row (row_below (row_below HR.out.what HX.out.bx.below) HB2.out) (psC_cell _)) (by rfl) (by rfl) HN1.out (by decide) HB2.out.size ?_
              intro g1 cap1 X3 ho hg hl
              simp only [Nat.zero_add] at ho ⊢
              rw [List.nil_append] at ho
              simp only [Act.put, List.setIfInBounds_toArray]
              refine hK _ _ ?_
              clear hK K
              have HB3 := Lib.hid (row_grown HB2.out hg (ownsRow_ge HE.out (by rfl)).1 (Nat.le_refl _))
              have HN := Lib.hid (HN.out.of_block6 (hg.block b5 HN.out.lt (fun e => HNE.out (by injection e))) (Nat.lt_of_lt_of_le HN.out.lt hg.size))
              have H51 := Lib.hid ho
              clear ho hg hl HE
              refine wpAny_ready (rs := [6]) (by kernel_rfl) (by simp) ?_
              refine AllReady.cons rfl (fun K hK => ?_) AllReady.nil
              rw [if_pos (by rfl)]
              refine wp_app_row HL.out _ _ (by rfl) H51.out (buf_src HN.out) (by rfl) (by rfl) HN2.out (by decide) HB3.out.size ?_
              intro g2 cap2 X4 ho hg hl
              simp only [Act.put]
              refine hK _ _ ?_
              clear hK K
              have HB4 := Lib.hid (row_grown HB3.out hg (ownsRow_ge H51.out (by rfl)).1 (Nat.le_refl _))
              have H54 := Lib.hid ho
              clear ho hg hl H51 HN
              refine wpAny_ready (rs := [7]) (by kernel_rfl) (by simp) ?_
              refine AllReady.cons rfl (fun K hK => ?_) AllReady.nil
              go_simp
              refine hK _ _ ?_
              clear hK K
              refine wpAny_ready (rs := [8]) (by kernel_rfl) (by simp) ?_
              refine AllReady.cons rfl (fun K hK => ?_) AllReady.nil
              have c3 := (HX.out.step HB4.out).bx.b1.cell 3 _ rfl
              have f3 := (HX.out.step HB4.out).bx.b1.fz 3 (by decide)
              go_simp
              refine hK _ _ ?_
              clear hK K c3 f3
              refine wpAny_done (by kernel_rfl) ?_ _
              have HZ := Lib.hid (WEnd.of HX.out HB4.out H54.out)
              generalize X4.setCell ⟨W.heap.size, 3, none⟩ (.slice (some ⟨g2, 0, none⟩) (wh.length + 1) cap2) = Z at *
              have HX := Lib.hid (show Bp W Z W.heap.size (W.heap.size + 1 + 1) (W.heap.size + 1) [.slice a1 su.length a3, .slice (some ⟨g3, 0, none⟩) se.length cap3, .slice (some ⟨g5, 0, none⟩) (at_.length + 1) cap5, .slice (some ⟨g2, 0, none⟩) (wh.length + 1) cap2, .bool false, .int .i64 f2] zero6 p from HZ.out.bp)
              have HS2 := Lib.hid (ownsRow_of_block HRW.out (fun g hg => HZ.out.old g (ownsRow_ge HRW.out hg).2 (fun e => row_out HRW.out HLT.out.1 (e ▸ hg))))
              have HA2 := Lib.hid (ownsRow_of_block HRA.out (fun g hg => HZ.out.old g (ownsRow_ge HRA.out hg).2 (fun e => row_out HRA.out HLT.out.1 (e ▸ hg))))
              have HW2 := Lib.hid (row_base HZ.out.row HB1Y.out)
              go_wp2_with (first
                | (refine wpList_load102 (e1 := W.heap.size) (cs1 := [.slice a1 su.length a3, .slice (some ⟨g3, 0, none⟩) se.length cap3, .slice (some ⟨g5, 0, none⟩) (at_.length + 1) cap5, .slice (some ⟨g2, 0, none⟩) (wh.length + 1) cap2, .bool false, .int .i64 f2]) (by rfl) (.tmp 3) (by rfl) ?_ ?_ ?_; exact HX.out.bx.b1; rfl)
                | (refine wpList_store102 (e1 := W.heap.size + 1 + 1) (cs1 := zero6) (by rfl) (.tmp 6) (.tmp 56) (by rfl) [.slice a1 su.length a3, .slice (some ⟨g3, 0, none⟩) se.length cap3, .slice (some ⟨g5, 0, none⟩) (at_.length + 1) cap5, .slice (some ⟨g2, 0, none⟩) (wh.length + 1) cap2, .bool false, .int .i64 f2] ?_ ?_ ?_ ?_ ?_ ?_; exact HX.out.bx.b2; rfl; rfl; rfl; simp [Value.oneCell']))
              have HX := Lib.hid (HX.out.set2 [.slice a1 su.length a3, .slice (some ⟨g3, 0, none⟩) se.length cap3, .slice (some ⟨g5, 0, none⟩) (at_.length + 1) cap5, .slice (some ⟨g2, 0, none⟩) (wh.length + 1) cap2, .bool false, .int .i64 f2] rfl)
              have HFIN := Lib.hid (wr_final HR.out hB HX.out.bx.below k p HP.out HBW.out (row_set_far HS2.out _ _ _ (row_out HS2.out HLT.out.2.2)) (row_set_far HA2.out _ _ _ (row_out HA2.out HLT.out.2.2)) (row_set_far HW2.out _ _ _ (row_out HW2.out HLT.out.2.2)) HFW.out false f2)
              exact bodyPost_ret (results_cell2 (p := 6) (u := 7) (ty := 102) rfl _ _ ⟨W.heap.size + 1 + 1, 0, none⟩ _ _ rfl HX.out.bx.b2.load rfl) rfl ⟨_, _, _, _, rfl, HFIN.out.1, HX.out.bx.below, HFIN.out.2⟩
end Go.Proofs.Ytmaaljfcnnlnpaa
