/-
  Rows of pages and of numbers that calls lay, copy and change: what the document's disk is made of.
-/
import Derived.Test.YtmaaljfcnnlnpaaDiskWalk9
import Derived.Test.YtmaaljfcnnlnpaaFragWalk4
import Derived.Maps.AppendAt
import Derived.Laws.OwnMore
import Derived.Laws.Tables
namespace Go.Proofs.Ytmaaljfcnnlnpaa
open Go.RowKit

/-- A slice's type and its elements'. -/
structure ElT (t e : TypeId) (size bytes : Nat) (z : Value) (i : TypeInfo) : Prop where
  ht : Try.prog.underlying t = some (.slice e)
  hi : Try.prog.info? e = some i
  hz : i.zero = some z
  hsize : i.size = size
  hby : i.bytes = bytes
  hzs : z.cells.size = size
  hsz : 0 < size

theorem info55z : (Try.prog.info? 55).map (fun i => (i.zero, i.size, i.bytes)) = some (some (.agg (zero64.map bv).toArray), 64, 64) := by kernel_rfl
theorem info3' : (Try.prog.info? 3).map (fun i => (i.zero, i.size, i.bytes)) = some (some (.int .i64 0), 1, 8) := by kernel_rfl
set_option maxRecDepth 100000 in
theorem el99 : ∃ i, ElT 99 55 64 64 (.agg (zero64.map bv).toArray) i := by
  obtain ⟨i, hi, h1, h2, h3⟩ := info_parts info55z
  exact ⟨i, Try.underlying99, hi, h1, h2, h3, by kernel_rfl, by decide⟩
set_option maxRecDepth 100000 in
theorem el100 : ∃ i, ElT 100 3 1 8 (.int .i64 0) i := by
  obtain ⟨i, hi, h1, h2, h3⟩ := info_parts info3'
  exact ⟨i, Try.underlying100, hi, h1, h2, h3, by kernel_rfl, by decide⟩

/-- What a row yields that is appended. -/
def RowSrc (w : World) (size : Nat) (sv : Value) (m : Nat) (ys : List Value) : Prop :=
  (sv = .slice none 0 0 ∧ m = 0 ∧ ys = []) ∨ ∃ ad c, sv = .slice (some ad) m c ∧ ys.length = m * size ∧ (∀ j u, ys[j]? = some u → w.cell? (ad.add j) = some u) ∧ ∀ u ∈ ys, u.oneCell' = true

theorem rowSrc_row {w : World} {base : Nat} {e : TypeId} {size : Nat} {v : Value} {n : Nat} {xs : List Value} (h : w.ownsRow base e size v n xs) (h1 : ∀ u ∈ xs, u.oneCell' = true) : RowSrc w size v n xs := by
  rcases h.2 with ⟨e1, e2⟩ | ⟨g, cap, cur, e1, _⟩
  · subst e1 e2
    exact .inl ⟨rfl, rfl, List.eq_nil_of_length_eq_zero (by rw [h.1, Nat.zero_mul])⟩
  · subst e1
    refine .inr ⟨_, _, rfl, h.1, fun j u hu => ?_, h1⟩
    rw [addr_add, Nat.zero_add]
    exact own_cell h j u hu

section
variable {t e : TypeId} {size bytes : Nat} {z : Value} {i : TypeInfo}

theorem app_row (E : ElT t e size bytes z i) {w : World} {base g n cap : Nat} {xs : List Value} (hown : w.ownsRow base e size (.slice (some ⟨g, 0, none⟩) n cap) n xs) {sv : Value} {m : Nat} {ys : List Value} (hs : RowSrc w size sv m ys) (hn : n + m ≤ 100000) (hb : bytes ≤ 100000) (hbase : base ≤ w.heap.size) (ty : TypeId) :
    ∃ g' cap' w', (Builtin.append_ #[t, t] ty #[.slice (some ⟨g, 0, none⟩) n cap, sv]).run Try.prog w = .ok (.slice (some ⟨g', 0, none⟩) (n + m) cap') w' ∧
      w'.ownsRow base e size (.slice (some ⟨g', 0, none⟩) (n + m) cap') (n + m) (xs ++ ys) ∧ w.grownBy w' (some g) ∧ (g' = g ∨ g' = w.heap.size) := by
  rcases hs with ⟨rfl, rfl, rfl⟩ | ⟨ad, c, rfl, h1, h2, h3⟩
  · have hrun := run_append_owned_none (P := Try.prog) (w := w) base t ty e i size E.ht E.hi _ n xs hown
    exact ⟨g, cap, w, hrun, by rw [List.append_nil]; exact hown, ⟨rfl, rfl, rfl, Nat.le_refl _, fun _ _ _ => rfl⟩, .inl rfl⟩
  · have hle : (n + m) * bytes ≤ 100000 * 100000 := Nat.mul_le_mul hn hb
    obtain ⟨v', w', hr, ho, hg, hn', hl⟩ := run_append_own_at (P := Try.prog) w base t ty e i z size bytes E.ht E.hi E.hz E.hsize E.hby E.hzs E.hsz _ n xs hown ad m c ys h1 h2 h3 (by unfold maxLen; omega) (by omega) hbase
    rcases ho.2 with ⟨e1, _⟩ | ⟨g', cap', cur, e1, _⟩
    · exact absurd (hn'.1 e1).1 (by simp)
    · subst e1
      refine ⟨g', cap', w', hr, ho, hg, ?_⟩
      rcases hl with e | e
      · left; simpa [Value.ownBlock] using e
      · right; simpa [Value.ownBlock] using e

theorem wp_app_row (E : ElT t e size bytes z i) {w : World} {o : Oper} {a : Act} {K : Act → World → Prop} {Q : Exit → Act → World → Prop} (s x : Operand) (ho : o.op = .call { callee := .builtin .append, args := #[s, x], argTypes := #[t, t] })
    {base g n cap : Nat} {xs : List Value} (hown : w.ownsRow base e size (.slice (some ⟨g, 0, none⟩) n cap) n xs) {sv : Value} {m : Nat} {ys : List Value} (hs : RowSrc w size sv m ys) (h1 : a.eval s = .slice (some ⟨g, 0, none⟩) n cap) (h2 : a.eval x = sv) (hn : n + m ≤ 100000) (hb : bytes ≤ 100000) (hbase : base ≤ w.heap.size)
    (h : ∀ g' cap' w', w'.ownsRow base e size (.slice (some ⟨g', 0, none⟩) (n + m) cap') (n + m) (xs ++ ys) → w.grownBy w' (some g) → (g' = g ∨ g' = w.heap.size) → K (a.put o.dst (.slice (some ⟨g', 0, none⟩) (n + m) cap')) w') : o.wp Try.prog a w K Q := by
  obtain ⟨g', cap', w', hr, k1, k2, k3⟩ := app_row E hown hs hn hb hbase o.type
  unfold Oper.wp execOp
  simp only [ho, resolve, invoke, builtin, Sem.run_bind, Sem.run_pure, Result.andThen_ok, List.map_toArray, List.map_cons, List.map_nil, h1, h2, hr]
  exact h g' cap' w' k1 k2 k3

theorem wpList_app_row (E : ElT t e size bytes z i) {w : World} {ops : Array Oper} {rest : List Oper} {o : Oper} {a : Act} {Q : Exit → Act → World → Prop} (hgd : o.guard = none) (s x : Operand) (ho : o.op = .call { callee := .builtin .append, args := #[s, x], argTypes := #[t, t] })
    {base g n cap : Nat} {xs : List Value} (hown : w.ownsRow base e size (.slice (some ⟨g, 0, none⟩) n cap) n xs) {sv : Value} {m : Nat} {ys : List Value} (hs : RowSrc w size sv m ys) (h1 : a.eval s = .slice (some ⟨g, 0, none⟩) n cap) (h2 : a.eval x = sv) (hn : n + m ≤ 100000) (hb : bytes ≤ 100000) (hbase : base ≤ w.heap.size)
    (h : ∀ g' cap' w', w'.ownsRow base e size (.slice (some ⟨g', 0, none⟩) (n + m) cap') (n + m) (xs ++ ys) → w.grownBy w' (some g) → (g' = g ∨ g' = w.heap.size) → wpList Try.prog ops Q rest (a.put o.dst (.slice (some ⟨g', 0, none⟩) (n + m) cap')) w') : wpList Try.prog ops Q (o :: rest) a w :=
  wpList_plain hgd fun _ hK => wp_app_row E s x ho hown hs h1 h2 hn hb hbase fun g' cap' w' k1 k2 k3 => hK _ _ (h g' cap' w' k1 k2 k3)
end

theorem no_row (w : World) (base : Nat) (hb : base ≤ w.heap.size) (e : TypeId) (size : Nat) : (w.alloc (.cells #[] e)).ownsRow base e size (.slice (some ⟨w.heap.size, 0, none⟩) 0 0) 0 [] :=
  ⟨by simp, .inr ⟨_, 0, #[], rfl, hb, heap_alloc_new w _, Nat.le_refl _, Nat.zero_le _, by simp, by simp⟩⟩

theorem row_grown {n : Nat} {W X Y : World} {g : Nat} (hb : Below n W X) (hg : X.grownBy Y (some g)) (hn : n ≤ g) (hW : n ≤ W.heap.size) : Below n W Y :=
  ⟨hg.os.trans hb.os, hg.tape.trans hb.tape, hg.output.trans hb.output, Nat.le_trans hb.size hg.size, fun k hk => (hg.block k (Nat.lt_of_lt_of_le hk (Nat.le_trans hW hb.size)) (fun e => by cases e; omega)).trans (hb.block k hk)⟩

/-- A row in a world behind. -/
theorem row_below {W X : World} {base : Nat} {e : TypeId} {size : Nat} {v : Value} {n : Nat} {xs : List Value} (h : W.ownsRow base e size v n xs) (hb : Below W.heap.size W X) : X.ownsRow base e size v n xs :=
  ownsRow_of_block h (fun g hg => hb.block g (ownsRow_ge h hg).2)

/-- Pages, as cells. -/
def psC (l : List (List UInt8)) : List Value := l.flatMap fun p => p.map bv
def P64 (l : List (List UInt8)) : Prop := ∀ p ∈ l, p.length = 64
theorem psC_app (a b : List (List UInt8)) : psC (a ++ b) = psC a ++ psC b := by simp [psC]
theorem psC_one (p : List UInt8) : psC [p] = p.map bv := by simp [psC]
theorem psC_length : ∀ l, P64 l → (psC l).length = l.length * 64
  | [], _ => rfl
  | p :: l, h => by
    show (p.map bv ++ psC l).length = _
    rw [List.length_append, List.length_map, h p (.head _), psC_length l (fun q hq => h q (.tail _ hq)), List.length_cons]
    omega
theorem psC_cell (l : List (List UInt8)) : ∀ u ∈ psC l, u.oneCell' = true := fun u hu => by
  obtain ⟨p, _, hu⟩ := List.mem_flatMap.1 hu
  obtain ⟨b, _, rfl⟩ := List.mem_map.1 hu
  rfl
theorem psC_get : ∀ l, P64 l → ∀ k j (hk : k < l.length), j < 64 → (psC l)[k * 64 + j]? = (l[k].map bv)[j]?
  | p :: l, h, 0, j, hk, hj => by
    show (p.map bv ++ psC l)[0 * 64 + j]? = _
    rw [Nat.zero_mul, Nat.zero_add, List.getElem?_append_left (by rw [List.length_map, h p (.head _)]; exact hj)]
    rfl
  | p :: l, h, k + 1, j, hk, hj => by
    show (p.map bv ++ psC l)[(k + 1) * 64 + j]? = _
    rw [List.getElem?_append_right (by rw [List.length_map, h p (.head _)]; omega), List.length_map, h p (.head _), show (k + 1) * 64 + j - 64 = k * 64 + j by omega]
    exact psC_get l (fun q hq => h q (.tail _ hq)) k j (by simpa using hk) hj

/-- A page of a row. -/
theorem row_page {W : World} {base g n cap : Nat} {l : List (List UInt8)} (h : W.ownsRow base 55 64 (.slice (some ⟨g, 0, none⟩) n cap) n (psC l)) (h64 : P64 l) (k : Nat) (hk : k < l.length) : W.rangeAt g (k * 64) (l[k].map bv) := fun j v hv => by
  have hj : j < 64 := by
    have := (List.getElem?_eq_some_iff.1 hv).1
    rw [List.length_map, h64 _ (List.getElem_mem hk)] at this
    exact this
  exact own_cell h _ _ ((psC_get l h64 k j hk hj).trans hv)

theorem setCells_heap (g : Nat) (e : TypeId) (fr : Nat × Nat) : ∀ (vs : List Value) (o : Nat) (W : World) (c : Array Value), W.heap[g]? = some (.cells c e fr) → ∃ c' : Array Value, (W.setCells g o vs).heap[g]? = some (.cells c' e fr) ∧ c'.size = c.size ∧ ∀ j, c'[j]? = if o ≤ j ∧ j < o + vs.length ∧ j < c.size then vs[j - o]? else c[j]?
  | [], o, W, c, h => ⟨c, h, rfl, fun j => by rw [if_neg (by simp; omega)]⟩
  | v :: vs, o, W, c, h => by
    have h1 : (W.setCell ⟨g, o, none⟩ v).heap[g]? = some (.cells (c.setIfInBounds o v) e fr) := by
      unfold World.setCell
      rw [Array.getElem?_modify, h]
      simp
    obtain ⟨c', k1, k2, k3⟩ := setCells_heap g e fr vs (o + 1) _ _ h1
    refine ⟨c', k1, by rw [k2, Array.size_setIfInBounds], fun j => ?_⟩
    rw [k3 j, Array.size_setIfInBounds]
    by_cases hj : j = o
    · subst hj
      rw [if_neg (by omega), Array.getElem?_setIfInBounds]
      by_cases hb : j < c.size
      · rw [if_pos rfl, if_pos hb, if_pos ⟨Nat.le_refl _, by simp, hb⟩, Nat.sub_self]; rfl
      · rw [if_pos rfl, if_neg hb, if_neg (fun h => hb h.2.2), Array.getElem?_eq_none (by omega)]
    · rw [Array.getElem?_setIfInBounds, if_neg (Ne.symm hj)]
      by_cases hc : o + 1 ≤ j ∧ j < o + 1 + vs.length ∧ j < c.size
      · rw [if_pos hc, if_pos ⟨by omega, by simp only [List.length_cons]; omega, hc.2.2⟩, show j - o = (j - (o + 1)) + 1 by omega]
        rfl
      · rw [if_neg hc, if_neg (fun h => hc ⟨by omega, by have := h.2.1; simp only [List.length_cons] at this; omega, h.2.2⟩)]

/-- A page of a row is laid anew. -/
theorem row_set {W : World} {base g n cap : Nat} {l : List (List UInt8)} (h : W.ownsRow base 55 64 (.slice (some ⟨g, 0, none⟩) n cap) n (psC l)) (h64 : P64 l) (hn : n = l.length) (k : Nat) (hk : k < l.length) (p : List UInt8) (hp : p.length = 64) :
    (W.setCells g (k * 64) (p.map bv)).ownsRow base 55 64 (.slice (some ⟨g, 0, none⟩) n cap) n (psC (l.set k p)) ∧ W.there g (k * 64) 64 := by
  have h64' : P64 (l.set k p) := fun q hq => by
    rcases List.mem_or_eq_of_mem_set hq with hq | rfl
    · exact h64 q hq
    · exact hp
  rcases h.2 with ⟨e1, _⟩ | ⟨g', cap', cur, e1, k1, k2, k3, k4, k5, k6⟩
  · cases e1
  injection e1 with e1 e2 e3
  injection e1 with e1
  injection e1 with e1 _ _
  subst e1 e3
  obtain ⟨c', c1, c2, c3⟩ := setCells_heap g 55 (0, 0) (p.map bv) (k * 64) W cur k2
  refine ⟨⟨by rw [psC_length _ h64', List.length_set, hn], .inr ⟨g, cap, c', rfl, k1, c1, k3, k4, c2.trans k5, ?_⟩⟩, fun j hj => ⟨?_, ?_⟩⟩
  · apply List.ext_getElem?
    intro j
    by_cases hjn : j < n * 64
    · have hjc : j < cur.size := by rw [k5]; exact Nat.lt_of_lt_of_le hjn (Nat.mul_le_mul_right _ k3)
      rw [List.getElem?_take_of_lt hjn, Array.getElem?_toList, c3 j, List.length_map, hp]
      have hd := Nat.div_add_mod j 64
      have hm := Nat.mod_lt j (show 64 > 0 by decide)
      have hq : j / 64 < l.length := by rw [← hn]; exact Nat.div_lt_of_lt_mul (by omega)
      have eg := psC_get (l.set k p) h64' (j / 64) (j % 64) (by rw [List.length_set]; exact hq) hm
      rw [show j / 64 * 64 + j % 64 = j by omega] at eg
      rw [eg]
      by_cases hjk : j / 64 = k
      · rw [if_pos ⟨by omega, by omega, hjc⟩]
        simp only [hjk, List.getElem_set_self]
        rw [show j - k * 64 = j % 64 by omega]
      · rw [if_neg (by omega)]
        rw [List.getElem_set_ne (Ne.symm hjk)]
        have e2 := psC_get l h64 (j / 64) (j % 64) hq hm
        rw [show j / 64 * 64 + j % 64 = j by omega] at e2
        rw [← e2, ← k6, List.getElem?_take_of_lt hjn, Array.getElem?_toList]
    · rw [List.getElem?_eq_none (by rw [List.length_take]; omega), List.getElem?_eq_none (by rw [psC_length _ h64', List.length_set, ← hn]; omega)]
  · rw [cell_of_row W g _ cur 55 (0, 0) k2]
    have : k * 64 + j < cur.size := by
      rw [k5]
      have : (k + 1) * 64 ≤ cap * 64 := Nat.mul_le_mul_right _ (by omega)
      omega
    rw [Array.getElem?_eq_getElem this]; rfl
  · have hfr : W.frozen? ⟨g, k * 64 + j, none⟩ = false := by
      unfold World.frozen?
      rw [k2]
      simp
    exact hfr

theorem rep_get (x : Value) (N j : Nat) (h : j < N) : (List.replicate N x).toArray[j]! = x := by simp [h]
theorem made_pages (n : Nat) : (madeCells (Value.agg (zero64.map bv).toArray).cells (n * 64)).toList = psC (List.replicate n zero64) := by
  have hz : zero64.map bv = List.replicate 64 (bv 0) := by simp [zero64]
  have h0 : (Value.agg (zero64.map bv).toArray).cells.size = 64 := by rw [hz]; rfl
  have h1 : ∀ j, j < 64 → (Value.agg (zero64.map bv).toArray).cells[j]! = bv 0 := fun j hj => by
    rw [hz]
    exact rep_get (bv 0) 64 j hj
  have e1 : (madeCells (Value.agg (zero64.map bv).toArray).cells (n * 64)).toList = List.replicate (n * 64) (bv 0) := by
    unfold madeCells
    rw [h0]
    apply List.ext_getElem
    · simp
    · intro j j1 j2
      simp only [Array.toList_map, List.getElem_map, Array.toList_range, List.getElem_range, List.getElem_replicate]
      exact h1 _ (Nat.mod_lt _ (by decide))
  rw [e1]
  induction n with
  | zero => rfl
  | succ n ih =>
    rw [List.replicate_succ]
    show _ = zero64.map bv ++ psC (List.replicate n zero64)
    rw [← ih (by
      unfold madeCells
      rw [h0]
      apply List.ext_getElem
      · simp
      · intro j j1 j2
        simp only [Array.toList_map, List.getElem_map, Array.toList_range, List.getElem_range, List.getElem_replicate]
        exact h1 _ (Nat.mod_lt _ (by decide))), hz, List.replicate_append_replicate, show (n + 1) * 64 = 64 + n * 64 by omega]

/-- Numbers, as cells. -/
def inC (l : List Int) : List Value := l.map (Value.int .i64)
theorem inC_cell (l : List Int) : ∀ u ∈ inC l, u.oneCell' = true := fun u hu => by
  obtain ⟨b, _, rfl⟩ := List.mem_map.1 hu
  rfl
end Go.Proofs.Ytmaaljfcnnlnpaa
