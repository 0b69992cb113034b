/-
  What DiskPlays holds in memory beside the disk: the document's disk in a struct, and a row of counts.
-/
import Derived.Test.YtmaaljfcnnlnpaaRefDisk6
namespace Go.Proofs.Ytmaaljfcnnlnpaa
open Go.RowKit

/-- A row of counts. -/
structure Rd (W : World) (q n : Nat) (F : Int → Int) : Prop where
  cell : ∀ k : Nat, k < n → W.cell? ⟨q, k, none⟩ = some (.int .i64 (F k))
  fz : ∀ k, W.frozen? ⟨q, k, none⟩ = false
  lt : q < W.heap.size

theorem Rd.of_block {W X : World} {q n : Nat} {F : Int → Int} (h : Rd W q n F) (e : X.heap[q]? = W.heap[q]?) (hs : W.heap.size ≤ X.heap.size) : Rd X q n F :=
  ⟨fun k hk => (World.cell?_of_block (a := ⟨q, k, none⟩) e).trans (h.cell k hk), fun k => (World.frozen?_of_block (a := ⟨q, k, none⟩) e).trans (h.fz k), Nat.lt_of_lt_of_le h.lt hs⟩

theorem Rd.set {W : World} {q n : Nat} {F : Int → Int} (h : Rd W q n F) (k : Nat) (hk : k < n) (y : Int) : Rd (W.setCell ⟨q, k, none⟩ (.int .i64 y)) q n (fun j => if j = (k : Int) then y else F j) := by
  refine ⟨fun j hj => ?_, fun j => ?_, by rw [setCell_size]; exact h.lt⟩
  · by_cases e : j = k
    · subst e
      rw [if_pos rfl]
      exact World.cell?_setCell_same' _ _ _ (by rw [h.cell j hj]; rfl)
    · rw [if_neg (by omega), World.cell?_setCell_other _ _ _ _ (fun e2 => e (by injection e2 with _ e3; exact e3.symm))]
      exact h.cell j hj
  · exact (World.frozen?_setCells q [.int .i64 y] k W ⟨q, j, none⟩).trans (h.fz j)

theorem DS.regrow {w W X : World} {d m1 m2 : Nat} {D : Dk} {l l' : List Nat} (h : DS w W d m1 m2 D l) (hb : Below W.heap.size W X) (hl : ∀ k ∈ l', k ∈ l ∨ (W.heap.size ≤ k ∧ k < X.heap.size)) : DS w X d m1 m2 D l' := by
  obtain ⟨k1, _⟩ := h.step hb
  obtain ⟨v, h3, h4⟩ := h.dk
  have h5 := h3.lt
  have ho1 := h3.o1
  have ho2 := h3.o2
  refine ⟨k1.below, h.ge, ⟨v, h3.below hb, fun x hx => ?_⟩, fun x hx => ?_⟩
  · rcases hl x hx with hx | ⟨h1, h2⟩
    · exact ⟨Nat.lt_of_lt_of_le (h4 x hx).1 hb.size, (h4 x hx).2⟩
    · exact ⟨h2, by omega, by omega, by omega, fun e => by
        have := (ownsRow_ge h3.row e).2
        omega⟩
  · rcases hl x hx with hx | ⟨h1, _⟩
    · exact h.lge x hx
    · exact Nat.le_trans h.below.size h1

theorem RfAt.of_blocks {W X : World} {B : Nat} {a b c d : Value} {r : Rf} (h : RfAt W B a b c d r) (hb : ∀ k ∈ rv4 a b c d, X.heap[k]? = W.heap[k]?) : RfAt X B a b c d r :=
  ⟨ownsRow_of_block h.sure (fun k hk => hb k (rv4_mem.2 (.inl hk))), ownsRow_of_block h.seen (fun k hk => hb k (rv4_mem.2 (.inr (.inl hk)))), ownsRow_of_block h.at_ (fun k hk => hb k (rv4_mem.2 (.inr (.inr (.inl hk))))),
    ownsRow_of_block h.what (fun k hk => hb k (rv4_mem.2 (.inr (.inr (.inr hk))))), h.s64, h.n64, h.w64, h.few⟩
theorem RfAt.lt {W : World} {B : Nat} {a b c d : Value} {r : Rf} (h : RfAt W B a b c d r) {k : Nat} (hk : k ∈ rv4 a b c d) : k < W.heap.size := by
  rcases rv4_mem.1 hk with e | e | e | e
  · exact (ownsRow_ge h.sure e).2
  · exact (ownsRow_ge h.seen e).2
  · exact (ownsRow_ge h.at_ e).2
  · exact (ownsRow_ge h.what e).2

/-- The disk, the document's disk, the counts; and the blocks ex that stand besides. -/
structure PM (w W : World) (d m1 m2 g q : Nat) (D : Dk) (r : Rf) (n : Nat) (F : Int → Int) (a b c e : Value) (ex : List Nat) : Prop where
  ds : DS w W d m1 m2 D (ex ++ g :: q :: rv4 a b c e)
  box : Box6 W g [a, b, c, e, .bool r.down, .int .i64 r.fuse]
  rf : RfAt W w.heap.size a b c e r
  rd : Rd W q n F
  gq : g ≠ q
  gn : g ∉ rv4 a b c e
  qn : q ∉ rv4 a b c e

section
variable {w W X : World} {d m1 m2 g q n : Nat} {D D' : Dk} {r r' : Rf} {F : Int → Int} {a b c e a' b' c' e' : Value} {ex : List Nat}

theorem PM.disk (h : PM w W d m1 m2 g q D r n F a b c e ex) (hS : DS w X d m1 m2 D' (ex ++ g :: q :: rv4 a b c e)) (hst : Stays W X (ex ++ g :: q :: rv4 a b c e)) : PM w X d m1 m2 g q D' r n F a b c e ex := by
  obtain ⟨v, _, hv⟩ := hS.dk
  have hg := (hv g (List.mem_append_right _ (.head _))).1
  have hq := (hv q (List.mem_append_right _ (.tail _ (.head _)))).1
  have eg := hst g (List.mem_append_right _ (.head _))
  have eq := hst q (List.mem_append_right _ (.tail _ (.head _)))
  exact ⟨hS, h.box.of_block eg hg, h.rf.of_blocks (fun k hk => hst k (List.mem_append_right _ (.tail _ (.tail _ hk)))), ⟨(fun k hk => (World.cell?_of_block (a := ⟨q, k, none⟩) eq).trans (h.rd.cell k hk)), fun k => (World.frozen?_of_block (a := ⟨q, k, none⟩) eq).trans (h.rd.fz k), hq⟩, h.gq, h.gn, h.qn⟩

theorem PM.step (h : PM w W d m1 m2 g q D r n F a b c e ex) (hb : Below W.heap.size W X) : PM w X d m1 m2 g q D r n F a b c e ex :=
  h.disk (h.ds.step hb).1 (h.ds.step hb).2

theorem PM.gt (h : PM w W d m1 m2 g q D r n F a b c e ex) {k : Nat} (hk : k ∈ ex ++ g :: q :: rv4 a b c e) : k < W.heap.size := by
  obtain ⟨v, _, hv⟩ := h.ds.dk
  exact (hv k hk).1

theorem PM.more (h : PM w W d m1 m2 g q D r n F a b c e ex) (hb : Below W.heap.size W X) (k : Nat) (h1 : W.heap.size ≤ k) (h2 : k < X.heap.size) : PM w X d m1 m2 g q D r n F a b c e (k :: ex) :=
  have hs := h.step hb
  ⟨h.ds.regrow hb (fun x hx => by
    rcases List.mem_cons.1 hx with rfl | hx
    · exact .inr ⟨h1, h2⟩
    · exact .inl hx), hs.box, hs.rf, hs.rd, hs.gq, hs.gn, hs.qn⟩

theorem PM.less (h : PM w W d m1 m2 g q D r n F a b c e ex) : PM w W d m1 m2 g q D r n F a b c e [] :=
  ⟨h.ds.less (fun _ hx => List.mem_append_right _ hx), h.box, h.rf, h.rd, h.gq, h.gn, h.qn⟩

/-- The document's disk is laid anew. -/
theorem PM.put (h : PM w W d m1 m2 g q D r n F a b c e ex) (hb : Below W.heap.size W X) (hr : RfAt X w.heap.size a' b' c' e' r') (ho : ∀ k ∈ rv4 a' b' c' e', k ∈ rv4 a b c e ∨ W.heap.size ≤ k) :
    PM w (X.setCells g 0 [a', b', c', e', .bool r'.down, .int .i64 r'.fuse]) d m1 m2 g q D r' n F a' b' c' e' ex := by
  have hs := h.step hb
  have hgW : g < W.heap.size := h.gt (List.mem_append_right _ (.head _))
  have hqW : q < W.heap.size := h.gt (List.mem_append_right _ (.tail _ (.head _)))
  have gn : g ∉ rv4 a' b' c' e' := fun hk => by
    rcases ho g hk with h1 | h1
    · exact h.gn h1
    · omega
  have qn : q ∉ rv4 a' b' c' e' := fun hk => by
    rcases ho q hk with h1 | h1
    · exact h.qn h1
    · omega
  have hd : DS w X d m1 m2 D (ex ++ g :: q :: rv4 a' b' c' e') := h.ds.regrow hb (fun k hk => by
    rcases List.mem_append.1 hk with hk | hk
    · exact .inl (List.mem_append_left _ hk)
    · rcases List.mem_cons.1 hk with rfl | hk
      · exact .inl (List.mem_append_right _ (.head _))
      · rcases List.mem_cons.1 hk with rfl | hk
        · exact .inl (List.mem_append_right _ (.tail _ (.head _)))
        · rcases ho k hk with h1 | h1
          · exact .inl (List.mem_append_right _ (.tail _ (.tail _ h1)))
          · exact .inr ⟨h1, hr.lt hk⟩)
  exact ⟨hd.setCells (List.mem_append_right _ (.head _)) _ _, hs.box.set _ rfl, hr.of_blocks (fun k hk => setCells_block _ _ _ _ _ (fun e => gn (e ▸ hk))), hs.rd.of_block (setCells_block _ _ _ _ _ (Ne.symm h.gq)) (by rw [heap_size_setCells]; exact Nat.le_refl _), h.gq, gn, qn⟩

theorem PM.one (h : PM w W d m1 m2 g q D r n F a b c e ex) (j : Nat) (hj : j < 6) (v : Value) (hr : RfAt W w.heap.size a b c e r') (hl : [a, b, c, e, .bool r.down, .int .i64 r.fuse].set j v = [a, b, c, e, .bool r'.down, .int .i64 r'.fuse]) :
    PM w (W.setCell ⟨g, j, none⟩ v) d m1 m2 g q D r' n F a b c e ex := by
  have hd : DS w (W.setCells g j [v]) d m1 m2 D (ex ++ g :: q :: rv4 a b c e) := h.ds.setCells (List.mem_append_right _ (.head _)) _ _
  have hb6 := h.box.one j hj v
  rw [hl] at hb6
  exact ⟨hd, hb6, hr.of_blocks (fun k hk => Below.heap_setCell W ⟨g, j, none⟩ v k (fun e9 => h.gn ((show k = g from e9) ▸ hk))), h.rd.of_block (Below.heap_setCell W ⟨g, j, none⟩ v q (Ne.symm h.gq)) (by rw [setCell_size]; exact Nat.le_refl _), h.gq, h.gn, h.qn⟩

theorem RfAt.rest {W : World} {B : Nat} {a b c d : Value} {r : Rf} (h : RfAt W B a b c d r) (dn : Bool) (f : Int) : RfAt W B a b c d { r with down := dn, fuse := f } :=
  ⟨h.sure, h.seen, h.at_, h.what, h.s64, h.n64, h.w64, h.few⟩

theorem PM.setDown (h : PM w W d m1 m2 g q D r n F a b c e ex) (v : Bool) : PM w (W.setCell ⟨g, 4, none⟩ (.bool v)) d m1 m2 g q D { r with down := v } n F a b c e ex :=
  h.one 4 (by decide) _ (h.rf.rest v r.fuse) rfl
theorem PM.setFuse (h : PM w W d m1 m2 g q D r n F a b c e ex) (f : Int) : PM w (W.setCell ⟨g, 5, none⟩ (.int .i64 f)) d m1 m2 g q D { r with fuse := f } n F a b c e ex :=
  h.one 5 (by decide) _ (h.rf.rest r.down f) rfl

theorem PM.bump (h : PM w W d m1 m2 g q D r n F a b c e ex) (k : Nat) (hk : k < n) (y : Int) : PM w (W.setCell ⟨q, k, none⟩ (.int .i64 y)) d m1 m2 g q D r n (fun j => if j = (k : Int) then y else F j) a b c e ex := by
  have hd : DS w (W.setCells q k [.int .i64 y]) d m1 m2 D (ex ++ g :: q :: rv4 a b c e) := h.ds.setCells (List.mem_append_right _ (.tail _ (.head _))) _ _
  exact ⟨hd, h.box.of_block (Below.heap_setCell W ⟨q, k, none⟩ _ g h.gq) (by rw [setCell_size]; exact h.box.lt), h.rf.of_blocks (fun j hj => Below.heap_setCell W ⟨q, k, none⟩ _ j (fun e9 => h.qn ((show j = q from e9) ▸ hj))), h.rd.set k hk y, h.gq, h.gn, h.qn⟩
end

/-- A row of counts made. -/
theorem wp_make100 {w : World} {o : Oper} {a : Act} {K : Act → World → Prop} {Q : Exit → Act → World → Prop} (x y : Operand) (ho : o.op = .makeSlice 100 x y) (n : Nat) (hn : n ≤ 1000) (h1 : a.eval x = .int .i64 (n : Int)) (h2 : a.eval y = .int .i64 (n : Int))
    (h : ∀ w', Rd w' w.heap.size n (fun _ => 0) → Below w.heap.size w w' → w'.heap.size = w.heap.size + 1 → K (a.put o.dst (.slice (some ⟨w.heap.size, 0, none⟩) n n)) w') : o.wp Try.prog a w K Q := by
  obtain ⟨i, E⟩ := el100
  have hr := run_make (P := Try.prog) w 100 3 i _ E.ht E.hi E.hz .i64 .i64 (n : Int) (n : Int) (by omega) (Int.le_refl _) (by rw [E.hby]; omega) (by omega)
  rw [E.hsize] at hr
  simp only [Int.toNat_natCast] at hr
  unfold Oper.wp execOp
  simp only [ho, h1, h2, Sem.run_bind, hr, Result.andThen_ok, Sem.run_pure]
  refine h _ ⟨fun k hk => ?_, fun k => ?_, by simp⟩ ((Below.refl _ _).alloc (Nat.le_refl _) _) (by simp)
  · rw [World.cell?_alloc_new]
    unfold madeCells
    simp [Value.cells, hk, Nat.mod_one]
  · exact World.frozen?_alloc_new _ _ _ _

theorem wpList_make100 {ops : Array Oper} {rest : List Oper} {w : World} {o : Oper} {a : Act} {Q : Exit → Act → World → Prop} (hgd : o.guard = none) (x y : Operand) (ho : o.op = .makeSlice 100 x y) (n : Nat) (hn : n ≤ 1000) (h1 : a.eval x = .int .i64 (n : Int)) (h2 : a.eval y = .int .i64 (n : Int))
    (h : ∀ w', Rd w' w.heap.size n (fun _ => 0) → Below w.heap.size w w' → w'.heap.size = w.heap.size + 1 → wpList Try.prog ops Q rest (a.put o.dst (.slice (some ⟨w.heap.size, 0, none⟩) n n)) w') : wpList Try.prog ops Q (o :: rest) a w :=
  wpList_plain hgd fun _ hK => wp_make100 x y ho n hn h1 h2 fun w' k1 k2 k3 => hK _ _ (h w' k1 k2 k3)

/-- An act's cells. -/
def actC (a : Ac) : List Value := .int .u8 a.act :: .int .i64 a.at_ :: (a.p.map bv ++ [a.kv])
theorem actC_length {a : Ac} (h : a.p.length = 64) : (actC a).length = 67 := by simp [actC, h]
theorem actC_get {a : Ac} (h : a.p.length = 64) : (actC a)[0]? = some (.int .u8 a.act) ∧ (actC a)[1]? = some (.int .i64 a.at_) ∧ (∀ j v, (a.p.map bv)[j]? = some v → (actC a)[2 + j]? = some v) ∧ (actC a)[66]? = some a.kv := by
  refine ⟨rfl, rfl, fun j v hv => ?_, ?_⟩
  · have hj : j < (a.p.map bv).length := (List.getElem?_eq_some_iff.1 hv).1
    unfold actC
    rw [show 2 + j = j + 1 + 1 by omega, List.getElem?_cons_succ, List.getElem?_cons_succ, List.getElem?_append_left hj]
    exact hv
  · unfold actC
    rw [show 66 = 64 + 1 + 1 by rfl, List.getElem?_cons_succ, List.getElem?_cons_succ, List.getElem?_append_right (by simp [h])]
    simp [h]
theorem AcAt.range {W : World} {b o : Nat} {a : Ac} (h : AcAt W b o a) : W.rangeAt b o (actC a) := fun j v hv => by
  obtain ⟨k0, k1, k2, k3⟩ := actC_get h.len
  have hj : j < 67 := by rw [← actC_length h.len]; exact (List.getElem?_eq_some_iff.1 hv).1
  by_cases e0 : j = 0
  · subst e0; rw [k0] at hv; cases hv; exact h.c0
  by_cases e1 : j = 1
  · subst e1; rw [k1] at hv; cases hv; exact h.c1
  by_cases e2 : j = 66
  · subst e2; rw [k3] at hv; cases hv; exact h.c3
  · obtain ⟨i, rfl⟩ : ∃ i, j = 2 + i := ⟨j - 2, by omega⟩
    have hi : i < a.p.length := by rw [h.len]; omega
    have hg : (a.p.map bv)[i]? = some (bv a.p[i]) := by rw [List.getElem?_map, List.getElem?_eq_getElem hi]; rfl
    rw [k2 i _ hg] at hv
    cases hv
    have := h.c2 i _ hg
    rwa [Nat.add_assoc] at this
theorem actC_one {W : World} {b o : Nat} {a : Ac} (h : AcAt W b o a) : ∀ v ∈ actC a, v.oneCell' = true := fun v hv => by
  rcases List.mem_cons.1 hv with rfl | hv
  · rfl
  rcases List.mem_cons.1 hv with rfl | hv
  · rfl
  rcases List.mem_append.1 hv with hv | hv
  · obtain ⟨x, _, rfl⟩ := List.mem_map.1 hv
    rfl
  · rw [List.mem_singleton.1 hv]
    obtain ⟨ka, kc, e, _⟩ := h.keep
    rw [e]; rfl

theorem info82 : (Try.prog.info? 82).map (·.size) = some 67 := by kernel_rfl
section
variable {ops : Array Oper} {rest : List Oper} {op : Oper} {a : Act} {w : World} {Q : Exit → Act → World → Prop}
theorem wpList_load82 (hgd : op.guard = none) (x : Operand) (ho : op.op = .load 82 x) (g o : Nat) (hx : a.eval x = .pointer (some ⟨g, o, none⟩)) (cs : List Value) (hl : cs.length = 67) (hb : w.rangeAt g o cs)
    (h : wpList Try.prog ops Q rest (a.put op.dst (.agg cs.toArray)) w) : wpList Try.prog ops Q (op :: rest) a w :=
  wpList_load_mid hgd 82 x ho g o hx cs _ hb Try.underlying82 rfl (by rw [info82, hl]) h

theorem wpList_new82 (hgd : op.guard = none) (x y : Operand) (ho : op.op = .store 82 x y) (w0 : World) (c : Array Value) (hw : w = w0.alloc (.cells c 82)) (hc : c.size = 67) (hx : a.eval x = .pointer (some ⟨w0.heap.size, 0, none⟩))
    (vs : List Value) (hy : a.eval y = .agg vs.toArray) (hv : vs.length = 67) (h1 : ∀ v ∈ vs, v.oneCell' = true)
    (h : ∀ W', W'.rangeAt w0.heap.size 0 vs → Below w0.heap.size w0 W' → w0.heap.size < W'.heap.size → wpList Try.prog ops Q rest (a.put op.dst undef) W') : wpList Try.prog ops Q (op :: rest) a w := by
  subst hw
  have ht : (w0.alloc (.cells c 82)).there w0.heap.size 0 67 := fun j hj => by
    refine ⟨?_, by rw [Nat.zero_add]; exact World.frozen?_alloc_new _ _ _ _⟩
    rw [Nat.zero_add, World.cell?_alloc_new, Array.getElem?_eq_getElem (by omega)]
    rfl
  refine wpList_store_mid hgd 82 x y ho w0.heap.size 0 vs.toArray hx hy (by rw [show vs.toArray.size = 67 from hv]; exact ht) (by rw [info82, show vs.toArray.size = 67 from hv]) (all_oneCell_toArray h1) ?_
  exact h _ (World.rangeAt_setCells_same _ w0.heap.size 0 vs (hv ▸ ht)) (below_setCells (Nat.le_refl _) _ _ _ ((Below.refl _ _).alloc (Nat.le_refl _) _)) (by rw [heap_size_setCells]; simp)
end
end Go.Proofs.Ytmaaljfcnnlnpaa
