/-
  The document's disk: a new one, the fuse, a sync.
-/
import Derived.Test.YtmaaljfcnnlnpaaRefDisk1
namespace Go.Proofs.Ytmaaljfcnnlnpaa
open Go.RowKit

/-- The document's disk. -/
structure Rf where
  sure : List (List UInt8)
  seen : List (List UInt8)
  at_ : List Int
  what : List (List UInt8)
  down : Bool
  fuse : Int

/-- In memory. -/
structure RfAt (W : World) (base : Nat) (a b c d : Value) (r : Rf) : Prop where
  sure : W.ownsRow base 55 64 a r.sure.length (psC r.sure)
  seen : W.ownsRow base 55 64 b r.seen.length (psC r.seen)
  at_ : W.ownsRow base 3 1 c r.at_.length (inC r.at_)
  what : W.ownsRow base 55 64 d r.what.length (psC r.what)
  s64 : P64 r.sure
  n64 : P64 r.seen
  w64 : P64 r.what
  few : r.sure.length ≤ 1000 ∧ r.seen.length ≤ 1000 ∧ r.at_.length ≤ 1000 ∧ r.what.length ≤ 1000

def rfV (a b c d : Value) (r : Rf) : Value := .agg #[a, b, c, d, .bool r.down, .int .i64 r.fuse]

theorem RfAt.below {W X : World} {base : Nat} {a b c d : Value} {r : Rf} (h : RfAt W base a b c d r) (hb : Below W.heap.size W X) : RfAt X base a b c d r :=
  ⟨row_below h.sure hb, row_below h.seen hb, row_below h.at_ hb, row_below h.what hb, h.s64, h.n64, h.w64, h.few⟩

theorem info102 : (Try.prog.info? 102).map (·.size) = some 6 := by kernel_rfl
theorem load102 {W : World} {g : Nat} {cs : Array Value} (h : W.heap[g]? = some (.cells cs 102 (0, 0))) (hs : cs.size = 6) : (loadVar 102 ⟨g, 0, none⟩).run Try.prog W = .ok (.agg cs) W :=
  run_loadVar_row W g 102 102 cs (0, 0) _ h Try.underlying102 rfl (by rw [info102, hs])
theorem alloc2_heap (W : World) (o p : Obj) : ((W.alloc o).alloc p).heap[W.heap.size + 1]? = some p := by
  have := heap_alloc_new (W.alloc o) p
  rwa [show (W.alloc o).heap.size = W.heap.size + 1 by simp] at this
theorem alloc2_below (W : World) (o p : Obj) : Below W.heap.size W ((W.alloc o).alloc p) := ((Below.refl _ _).alloc (Nat.le_refl _) _).alloc (by simp) _

def fuseDn (f : Int) : Int := if 0 < f then f - 1 else f

set_option maxRecDepth 100000 in
set_option maxHeartbeats 4000000 in
theorem rfused {a1 b1 c1 d1 : Option Addr} {a2 a3 b2 b3 c2 c3 d2 d3 : Nat} (dn : Bool) (f : Int) (hf : -1 ≤ f ∧ f ≤ 9223372036854775807) (W : World) :
    Calls Try.prog 95 #[.agg #[.slice a1 a2 a3, .slice b1 b2 b3, .slice c1 c2 c3, .slice d1 d2 d3, .bool dn, .int .i64 f]] W fun r w' =>
      r = .returned (.tuple #[.agg #[.slice a1 a2 a3, .slice b1 b2 b3, .slice c1 c2 c3, .slice d1 d2 d3, .bool dn, .int .i64 (fuseDn f)], .bool (f != 0)]) ∧ Below W.heap.size W w' := by
  go_enter Try.func95, Try.ntmps95
  by_cases h0 : f = 0
  · subst h0
    go_wp2_with fail
    exact bodyPost_ret (results_cell2 (p := 2) (u := 3) (ty := 102) rfl _ _ ⟨W.heap.size + 1, 0, none⟩ _ _ rfl (load102 (alloc2_heap _ _ _) rfl) rfl) rfl ⟨rfl, alloc2_below _ _ _⟩
  · have h0b : (f == 0) = false := by rw [beq_eq_false_iff_ne]; exact h0
    have h0c : (f != 0) = true := by rw [bne_iff_ne]; exact h0
    by_cases h1 : 0 < f
    · have e : fuseDn f = f - 1 := if_pos h1
      go_wp2_with fail
      exact bodyPost_ret (results_cell2 (p := 2) (u := 3) (ty := 102) rfl _ _ ⟨W.heap.size + 1, 0, none⟩ _ _ rfl (load102 (alloc2_heap _ _ _) rfl) rfl) rfl ⟨by first | (rw [e, h0c]; rfl) | (rw [h0c]; rfl) | rfl, alloc2_below _ _ _⟩
    · have e : fuseDn f = f := if_neg h1
      go_wp2_with fail
      exact bodyPost_ret (results_cell2 (p := 2) (u := 3) (ty := 102) rfl _ _ ⟨W.heap.size + 1, 0, none⟩ _ _ rfl (load102 (alloc2_heap _ _ _) rfl) rfl) rfl ⟨by first | (rw [e, h0c]; rfl) | (rw [h0c]; rfl) | rfl, alloc2_below _ _ _⟩

theorem wp_make99 {w : World} {o : Oper} {a : Act} {K : Act → World → Prop} {Q : Exit → Act → World → Prop} (x y : Operand) (ho : o.op = .makeSlice 99 x y) (base n : Nat) (hn : n ≤ 1000) (h1 : a.eval x = .int .i64 (n : Int)) (h2 : a.eval y = .int .i64 (n : Int)) (hb : base ≤ w.heap.size)
    (h : ∀ w', w'.ownsRow base 55 64 (.slice (some ⟨w.heap.size, 0, none⟩) n n) n (psC (List.replicate n zero64)) → w.grownBy w' none → w'.heap.size = w.heap.size + 1 → K (a.put o.dst (.slice (some ⟨w.heap.size, 0, none⟩) n n)) w') : o.wp Try.prog a w K Q := by
  obtain ⟨i, E⟩ := el99
  have hr := run_make (P := Try.prog) w 99 55 i _ E.ht E.hi E.hz .i64 .i64 (n : Int) (n : Int) (by omega) (Int.le_refl _) (by rw [E.hby]; omega) (by omega)
  have hown : (w.alloc (.cells (madeCells (Value.agg (zero64.map bv).toArray).cells (n * 64)) 55)).ownsRow base 55 64 (.slice (some ⟨w.heap.size, 0, none⟩) n n) n (psC (List.replicate n zero64)) :=
    ⟨by rw [psC_length _ (fun p hp => by rw [(List.mem_replicate.1 hp).2]; rfl), List.length_replicate], .inr ⟨_, n, _, rfl, hb, heap_alloc_new w _, Nat.le_refl _, by unfold maxLen; omega, size_madeCells _ _, by rw [List.take_of_length_le (by rw [Array.length_toList, size_madeCells]; exact Nat.le_refl _)]; exact made_pages n⟩⟩
  rw [E.hsize] at hr
  simp only [Int.toNat_natCast] at hr
  unfold Oper.wp execOp
  simp only [ho, h1, h2, Sem.run_bind, hr, Result.andThen_ok, Sem.run_pure]
  exact h _ hown (World.grownBy_alloc w _ none) (by simp)

/-- The six cells of a disk's struct. -/
structure Box6 (W : World) (g : Nat) (cs : List Value) : Prop where
  range : W.rangeAt g 0 cs
  there : W.there g 0 6
  lt : g < W.heap.size
  len : cs.length = 6

theorem Box6.new (W : World) (cs : List Value) (h : cs.length = 6) : Box6 (W.alloc (.cells cs.toArray 102)) W.heap.size cs := by
  have hh := heap_alloc_new W (.cells cs.toArray 102)
  refine ⟨fun j v hv => ?_, fun j hj => ⟨?_, ?_⟩, by simp, h⟩
  · rw [World.cell?_alloc_new, Nat.zero_add]; simpa using hv
  · rw [World.cell?_alloc_new, Nat.zero_add]; simp [h, hj]
  · unfold World.frozen?; rw [hh]; simp

theorem Box6.of_block {W X : World} {g : Nat} {cs : List Value} (h : Box6 W g cs) (e : X.heap[g]? = W.heap[g]?) (hlt : g < X.heap.size) : Box6 X g cs :=
  ⟨fun j v hv => (World.cell?_of_block (a := ⟨g, 0 + j, none⟩) e).trans (h.range j v hv), fun j hj => ⟨by rw [World.cell?_of_block (a := ⟨g, 0 + j, none⟩) e]; exact (h.there j hj).1, (World.frozen?_of_block (a := ⟨g, 0 + j, none⟩) e).trans (h.there j hj).2⟩, hlt, h.len⟩

theorem Box6.set {W : World} {g : Nat} {cs : List Value} (h : Box6 W g cs) (vs : List Value) (hl : vs.length = 6) : Box6 (W.setCells g 0 vs) g vs :=
  ⟨World.rangeAt_setCells_same W g 0 vs (by rw [hl]; exact h.there), World.there_setCells h.there _ _ _, by rw [heap_size_setCells]; exact h.lt, hl⟩

theorem Box6.load {W : World} {g : Nat} {cs : List Value} (h : Box6 W g cs) : (loadVar 102 ⟨g, 0, none⟩).run Try.prog W = .ok (.agg cs.toArray) W :=
  run_loadVar_mid W g 0 102 cs _ h.range Try.underlying102 rfl (by rw [info102, h.len])

theorem set_below {n : Nat} {W X : World} (hb : Below n W X) (g : Nat) (hg : n ≤ g) (o : Nat) (vs : List Value) : Below n W (X.setCells g o vs) :=
  ⟨(setCells_env g vs o X).1.trans hb.os, (setCells_env g vs o X).2.1.trans hb.tape, (setCells_env g vs o X).2.2.trans hb.output, by rw [heap_size_setCells]; exact hb.size, fun k hk => (setCells_block g o vs X k (by omega)).trans (hb.block k hk)⟩

/-- A row stands behind a store elsewhere. -/
theorem row_set_far {X : World} {base : Nat} {e : TypeId} {size : Nat} {v : Value} {n : Nat} {xs : List Value} (h : X.ownsRow base e size v n xs) (g o : Nat) (vs : List Value) (hg : v.ownBlock ≠ some g) : (X.setCells g o vs).ownsRow base e size v n xs :=
  ownsRow_of_block h (fun k hk => setCells_block g o vs X k (fun e => hg (e ▸ hk)))

theorem grown_none {n : Nat} {W X Y : World} (hb : Below n W X) (hg : X.grownBy Y none) (hW : n ≤ W.heap.size) : Below n W Y :=
  ⟨hg.os.trans hb.os, hg.tape.trans hb.tape, hg.output.trans hb.output, Nat.le_trans hb.size hg.size, fun k hk => (hg.block k (Nat.lt_of_lt_of_le hk (Nat.le_trans hW hb.size)) (by simp)).trans (hb.block k hk)⟩

theorem row_rep {X : World} {base : Nat} {v : Value} {n : Nat} (h : X.ownsRow base 55 64 v n (psC (List.replicate n zero64))) : X.ownsRow base 55 64 v (List.replicate n zero64).length (psC (List.replicate n zero64)) := by
  rw [List.length_replicate]
  exact h

def Rf.new (n : Nat) : Rf := ⟨List.replicate n zero64, List.replicate n zero64, [], [], false, -1⟩

set_option maxRecDepth 100000 in
set_option maxHeartbeats 4000000 in
theorem rnew (n : Nat) (hn : n ≤ 1000) (W : World) :
    Calls Try.prog 66 #[.int .i64 (n : Int)] W fun r w' => ∃ a b, r = .returned (rfV (.slice (some ⟨a, 0, none⟩) n n) (.slice (some ⟨b, 0, none⟩) n n) (.slice none 0 0) (.slice none 0 0) (Rf.new n)) ∧
      RfAt w' W.heap.size (.slice (some ⟨a, 0, none⟩) n n) (.slice (some ⟨b, 0, none⟩) n n) (.slice none 0 0) (.slice none 0 0) (Rf.new n) ∧ Below W.heap.size W w' := by
  go_enter Try.func66, Try.ntmps66
  go_upto_region 1 with fail
  have HX := Lib.hid (Box6.new W [.slice none 0 0, .slice none 0 0, .slice none 0 0, .slice none 0 0, .bool false, .int .i64 0] rfl)
  have HB0 := Lib.hid (show Below W.heap.size W ((W.alloc (.cells [Value.slice none 0 0, .slice none 0 0, .slice none 0 0, .slice none 0 0, .bool false, .int .i64 0].toArray 102)).drew) from ((Below.refl _ _).alloc (Nat.le_refl _) _).drew)
  have HR64 : Hid (P64 (List.replicate n zero64)) := Lib.hid (fun p hp => by rw [(List.mem_replicate.1 hp).2]; rfl)
  have HFW : Hid ((Rf.new n).sure.length ≤ 1000 ∧ (Rf.new n).seen.length ≤ 1000 ∧ (Rf.new n).at_.length ≤ 1000 ∧ (Rf.new n).what.length ≤ 1000) := Lib.hid ⟨by show (List.replicate n zero64).length ≤ 1000; rw [List.length_replicate]; exact hn, by show (List.replicate n zero64).length ≤ 1000; rw [List.length_replicate]; exact hn, Nat.zero_le _, Nat.zero_le _⟩
  refine wp_region_any (by kernel_rfl) ?_
  change wpAny _ _ _ _ _ _ _ ((W.alloc (.cells [Value.slice none 0 0, .slice none 0 0, .slice none 0 0, .slice none 0 0, .bool false, .int .i64 0].toArray 102)).drew)
  have HX := Lib.hid (show Box6 ((W.alloc (.cells [Value.slice none 0 0, .slice none 0 0, .slice none 0 0, .slice none 0 0, .bool false, .int .i64 0].toArray 102)).drew) W.heap.size _ from HX.out.of_block rfl HX.out.lt)
  generalize ((W.alloc (.cells [Value.slice none 0 0, .slice none 0 0, .slice none 0 0, .slice none 0 0, .bool false, .int .i64 0].toArray 102)).drew) = X0 at *
  have HX0 := Lib.hid HX.out.lt
  refine wpAny_take (i := 0) (v := .int .i64 (n : Int)) rfl (by kernel_rfl) (by kernel_rfl) (by kernel_rfl) (fun _ _ _ h => h) (Or.inl ⟨by rfl, by intro w; go_simp⟩) ?_
  simp only [Act.put, List.setIfInBounds_toArray, List.set_cons_zero, List.set_cons_succ]
  refine wpAny_take (i := 2) (v := .int .i64 (n : Int)) rfl (by kernel_rfl) (by kernel_rfl) (by kernel_rfl) (fun _ _ _ h => h) (Or.inl ⟨by rfl, by intro w; go_simp⟩) ?_
  simp only [Act.put, List.setIfInBounds_toArray, List.set_cons_zero, List.set_cons_succ]
  refine wpAny_ready (rs := [1, 3]) (by kernel_rfl) (by simp) ?_
  refine AllReady.cons rfl (fun K hK => ?_) (AllReady.cons rfl (fun K hK => ?_) AllReady.nil)
  · rw [if_pos (by rfl)]
    refine wp_make99 _ _ (by rfl) W.heap.size n hn (by rfl) (by rfl) HB0.out.size ?_
    intro X1 ho hg hs
    simp only [Act.put, List.setIfInBounds_toArray, List.set_cons_zero, List.set_cons_succ]
    refine hK _ _ ?_
    clear hK K
    have HB1 := Lib.hid (grown_none HB0.out hg (Nat.le_refl _))
    have HX := Lib.hid (HX.out.of_block (hg.block _ HX.out.lt (by simp)) (Nat.lt_of_lt_of_le HX.out.lt hg.size))
    have H4 := Lib.hid ho
    have H4n := Lib.hid (show W.heap.size ≠ X0.heap.size from Nat.ne_of_lt HX0.out)
    have HX1 := Lib.hid HX.out.lt
    clear ho hg hs
    generalize X0.heap.size = e0 at *
    refine wpAny_ready (rs := [3]) (by kernel_rfl) (by simp) ?_
    refine AllReady.cons rfl (fun K hK => ?_) AllReady.nil
    rw [if_pos (by rfl)]
    refine wp_make99 _ _ (by rfl) W.heap.size n hn (by rfl) (by rfl) HB1.out.size ?_
    intro X2 ho hg hs
    simp only [Act.put, List.setIfInBounds_toArray, List.set_cons_zero, List.set_cons_succ]
    refine hK _ _ ?_
    clear hK K
    have HB2 := Lib.hid (grown_none HB1.out hg (Nat.le_refl _))
    have HX := Lib.hid (HX.out.of_block (hg.block _ HX.out.lt (by simp)) (Nat.lt_of_lt_of_le HX.out.lt hg.size))
    have H6 := Lib.hid ho
    have H6n := Lib.hid (show W.heap.size ≠ X1.heap.size from Nat.ne_of_lt HX1.out)
    have H4 := Lib.hid (ownsRow_of_block H4.out (fun k hk => hg.block k (ownsRow_ge H4.out hk).2 (by simp)))
    clear ho hg hs
    generalize X1.heap.size = e1 at *
    refine wpAny_ready (rs := [4]) (by kernel_rfl) (by simp) ?_
    refine AllReady.cons rfl (fun K hK => ?_) AllReady.nil
    go_simp
    refine hK _ _ ?_
    clear hK K
    refine wpAny_ready (rs := [5]) (by kernel_rfl) (by simp) ?_
    refine AllReady.cons rfl (fun K hK => ?_) AllReady.nil
    rw [if_pos (by rfl)]
    refine wp_store_mid 102 _ _ (by rfl) W.heap.size 0 #[.slice (some ⟨e0, 0, none⟩) n n, .slice (some ⟨e1, 0, none⟩) n n, .slice none 0 0, .slice none 0 0, .bool false, .int .i64 (-1)] (by rfl) (by rfl) HX.out.there (by rw [info102]; rfl) (by simp [Value.oneCell']) ?_
    simp only [Act.put, List.setIfInBounds_toArray, List.set_cons_zero, List.set_cons_succ]
    refine hK _ _ ?_
    clear hK K
    refine wpAny_done (by kernel_rfl) ?_ _
    go_wp2_with fail
    exact bodyPost_ret (results_cell1 (p := 2) (ty := 102) rfl _ _ ⟨W.heap.size, 0, none⟩ _ rfl (HX.out.set _ rfl).load) rfl ⟨_, _, rfl, ⟨row_rep (row_set_far H4.out _ _ _ (fun e => H4n.out (by injection e with e; exact e.symm))), row_rep (row_set_far H6.out _ _ _ (fun e => H6n.out (by injection e with e; exact e.symm))), World.ownsRow_nil _ _ _ _, World.ownsRow_nil _ _ _ _, HR64.out, HR64.out, fun _ h => (by cases h), HFW.out⟩, set_below HB2.out _ (Nat.le_refl _) _ _⟩
  · rw [if_pos (by rfl)]
    refine wp_make99 _ _ (by rfl) W.heap.size n hn (by rfl) (by rfl) HB0.out.size ?_
    intro X1 ho hg hs
    simp only [Act.put, List.setIfInBounds_toArray, List.set_cons_zero, List.set_cons_succ]
    refine hK _ _ ?_
    clear hK K
    have HB1 := Lib.hid (grown_none HB0.out hg (Nat.le_refl _))
    have HX := Lib.hid (HX.out.of_block (hg.block _ HX.out.lt (by simp)) (Nat.lt_of_lt_of_le HX.out.lt hg.size))
    have H6 := Lib.hid ho
    have H6n := Lib.hid (show W.heap.size ≠ X0.heap.size from Nat.ne_of_lt HX0.out)
    have HX1 := Lib.hid HX.out.lt
    clear ho hg hs
    generalize X0.heap.size = e0 at *
    refine wpAny_ready (rs := [1]) (by kernel_rfl) (by simp) ?_
    refine AllReady.cons rfl (fun K hK => ?_) AllReady.nil
    rw [if_pos (by rfl)]
    refine wp_make99 _ _ (by rfl) W.heap.size n hn (by rfl) (by rfl) HB1.out.size ?_
    intro X2 ho hg hs
    simp only [Act.put, List.setIfInBounds_toArray, List.set_cons_zero, List.set_cons_succ]
    refine hK _ _ ?_
    clear hK K
    have HB2 := Lib.hid (grown_none HB1.out hg (Nat.le_refl _))
    have HX := Lib.hid (HX.out.of_block (hg.block _ HX.out.lt (by simp)) (Nat.lt_of_lt_of_le HX.out.lt hg.size))
    have H4 := Lib.hid ho
    have H4n := Lib.hid (show W.heap.size ≠ X1.heap.size from Nat.ne_of_lt HX1.out)
    have H6 := Lib.hid (ownsRow_of_block H6.out (fun k hk => hg.block k (ownsRow_ge H6.out hk).2 (by simp)))
    clear ho hg hs
    generalize X1.heap.size = e1 at *
    refine wpAny_ready (rs := [4]) (by kernel_rfl) (by simp) ?_
    refine AllReady.cons rfl (fun K hK => ?_) AllReady.nil
    go_simp
    refine hK _ _ ?_
    clear hK K
    refine wpAny_ready (rs := [5]) (by kernel_rfl) (by simp) ?_
    refine AllReady.cons rfl (fun K hK => ?_) AllReady.nil
    rw [if_pos (by rfl)]
    refine wp_store_mid 102 _ _ (by rfl) W.heap.size 0 #[.slice (some ⟨e1, 0, none⟩) n n, .slice (some ⟨e0, 0, none⟩) n n, .slice none 0 0, .slice none 0 0, .bool false, .int .i64 (-1)] (by rfl) (by rfl) HX.out.there (by rw [info102]; rfl) (by simp [Value.oneCell']) ?_
    simp only [Act.put, List.setIfInBounds_toArray, List.set_cons_zero, List.set_cons_succ]
    refine hK _ _ ?_
    clear hK K
    refine wpAny_done (by kernel_rfl) ?_ _
    go_wp2_with fail
    exact bodyPost_ret (results_cell1 (p := 2) (ty := 102) rfl _ _ ⟨W.heap.size, 0, none⟩ _ rfl (HX.out.set _ rfl).load) rfl ⟨_, _, rfl, ⟨row_rep (row_set_far H4.out _ _ _ (fun e => H4n.out (by injection e with e; exact e.symm))), row_rep (row_set_far H6.out _ _ _ (fun e => H6n.out (by injection e with e; exact e.symm))), World.ownsRow_nil _ _ _ _, World.ownsRow_nil _ _ _ _, HR64.out, HR64.out, fun _ h => (by cases h), HFW.out⟩, set_below HB2.out _ (Nat.le_refl _) _ _⟩
end Go.Proofs.Ytmaaljfcnnlnpaa
