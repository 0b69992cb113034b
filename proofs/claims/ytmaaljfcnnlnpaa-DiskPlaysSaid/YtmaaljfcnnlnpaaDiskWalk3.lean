/-
  The walk of a disk's Read.
-/
import Derived.Test.YtmaaljfcnnlnpaaDiskWalk2
namespace Go.Proofs.Ytmaaljfcnnlnpaa
open Go.RowKit

theorem Buf.of_block {W W' : World} {g : Nat} {bs : List UInt8} (h : Buf W g bs) (e : W'.heap[g]? = W.heap[g]?) (hs : W.heap.size ≤ W'.heap.size) : Buf W' g bs :=
  ⟨fun j v hv => (World.cell?_of_block (a := ⟨g, 0 + j, none⟩) e).trans (h.range j v hv), fun i => (World.frozen?_of_block (a := ⟨g, i, none⟩) e).trans (h.frozen i), h.len, Nat.lt_of_lt_of_le h.lt hs⟩

/-- The worlds of the walk: the disk, and the result's bytes in block g. -/
structure RW (w W : World) (d m1 m2 : Nat) (v : Value) (D : Dk) (g : Nat) : Prop where
  fr : DFr w W d m1 m2 v v
  dk : DkAt W d m1 m2 v D
  res : Buf W g zero64
  ge : w.heap.size ≤ g

theorem RW.start {w : World} {d m1 m2 : Nat} {v : Value} {D : Dk} (h : DkAt w d m1 m2 v D) (c : Array Value) (t : TypeId) (hc : c = (zero64.map bv).toArray) : RW w (w.alloc (.cells c t)) d m1 m2 v D w.heap.size :=
  have hb : Below w.heap.size w (w.alloc (.cells c t)) := (Below.refl _ _).alloc (Nat.le_refl _) _
  ⟨DFr.of_below hb _ _ _ _, h.below hb, Buf.new w zero64 c t hc zero64_length, Nat.le_refl _⟩

/-- The result written. -/
theorem RW.stored {w W : World} {d m1 m2 : Nat} {v : Value} {D D' : Dk} {g : Nat} (h : RW w W d m1 m2 v D g) (h0 : DkAt w d m1 m2 v D') (p : List UInt8) (hp : p.length = 64) :
    DFr w (W.setCells g 0 (p.map bv)) d m1 m2 v v ∧ DkAt (W.setCells g 0 (p.map bv)) d m1 m2 v D ∧ Buf (W.setCells g 0 (p.map bv)) g p := by
  have hb : Below w.heap.size W (W.setCells g 0 (p.map bv)) := below_setCells h.ge _ _ _ (Below.refl _ _)
  have k : ∀ k, k < w.heap.size → (W.setCells g 0 (p.map bv)).heap[k]? = W.heap[k]? := fun k hk => hb.block k hk
  refine ⟨⟨hb.os.trans h.fr.os, hb.tape.trans h.fr.tape, hb.output.trans h.fr.output, Nat.le_trans h.fr.size hb.size, fun i hi a b c e => (k i hi).trans (h.fr.block i hi a b c e), h.fr.own⟩, ?_, h.res.stored p hp⟩
  exact h.dk.of_blocks hb.size (k _ h0.lt) (k _ h0.sure.lt) (k _ h0.reads.lt) (fun g' hg => k _ (ownsRow_ge h0.row hg).2)

set_option maxRecDepth 100000 in
set_option maxHeartbeats 4000000 in
theorem dread_no {W : World} {d m1 m2 : Nat} {v : Value} {D : Dk} (h : DkAt W d m1 m2 v D) (i : Int) (hm : D.may i ≠ 0) :
    Calls Try.prog 57 #[.pointer (some ⟨d, 0, none⟩), .int .i64 i] W fun r w' => r = .returned (.tuple #[.agg (zero64.map bv).toArray, .int .i64 (D.may i : Nat)]) ∧ DkAt w' d m1 m2 v D ∧ DFr W w' d m1 m2 v v := by
  have H := Lib.hid h
  have S0 := Lib.hid (fun c t hc => RW.start h c t hc)
  clear h
  have MW := Lib.hid (fun (X : World) (hX : DkAt X d m1 m2 v D) => may_any hX i)
  generalize D.may i = e at *
  have hne : (e : Int) ≠ 0 := by omega
  go_enter Try.func57, Try.ntmps57
  go_upto_region 1 with fail
  refine wp_gate (fun X => RW W X d m1 m2 v D W.heap.size) (S0.out _ _ (by rfl)) ?_
  clear S0
  intro W1 hS
  have M := Lib.hid (MW.out W1 hS.dk)
  have HS := Lib.hid hS
  have HB := Lib.hid hS.res
  clear hS
  generalize W.heap.size = g at *
  go_wp2_with fail
  refine M.out.mono ?_
  rintro r w1 ⟨rfl, rfl⟩
  have F := Lib.hid (HS.out.stored H.out zero64 rfl)
  go_wp2_with (first
    | refine wpList_zero56 (by rfl) (by rfl) ?_
    | refine wpList_store56 (by rfl) _ _ (by rfl) g (by rfl) zero64 (by rfl) _ HB.out rfl ?_)
  exact bodyPost_ret (results_cell2 (p := 4) (u := 5) (ty := 56) rfl _ _ ⟨g, 0, none⟩ _ _ rfl (F.out.2.2.loadVar56) rfl) rfl ⟨rfl, F.out.2.1, F.out.1⟩

theorem wpList_load56o {ops : Array Oper} {rest : List Oper} {op : Oper} {a : Act} {w : World} {Q : Exit → Act → World → Prop} (x : Operand) (ho : op.op = .load 56 x) (hw : Region.wanted op (yielded ops a.tmps) = true) (g o : Nat)
    (hx : a.eval x = .pointer (some ⟨g, o, none⟩)) (bs : List UInt8) (hl : bs.length = 64) (hb : w.rangeAt g o (bs.map bv))
    (h : wpList Try.prog ops Q rest (a.put op.dst (.agg (bs.map bv).toArray)) w) : wpList Try.prog ops Q (op :: rest) a w :=
  wpList_wanted hw (wp_load_mid 56 x ho g o hx (bs.map bv) _ hb Try.underlying56 rfl (by rw [info56, List.length_map, hl]) h)

/-- The cells of a loose write. -/
theorem lo_at {W : World} {base g cap n : Nat} {l : List Wr} (h : W.ownsRow base 145 65 (.slice (some ⟨g, 0, none⟩) n cap) n (loCells l)) (hl : ∀ x ∈ l, x.2.length = 64) (k : Nat) (hk : k < l.length) :
    W.cell? ⟨g, k * 65, none⟩ = some (.int .i64 l[k].1) ∧ W.rangeAt g (k * 65 + 1) (l[k].2.map bv) := by
  have c := fun j (hj : j < 65) u (hu : (Value.int .i64 l[k].1 :: l[k].2.map bv)[j]? = some u) => own_cell h (k * 65 + j) u ((loCells_get l hl k j hk hj).trans hu)
  refine ⟨c 0 (by decide) _ rfl, fun j u hu => ?_⟩
  have hj : j < 64 := by
    have := (List.getElem?_eq_some_iff.1 hu).1
    rw [List.length_map, hl _ (List.getElem_mem hk)] at this
    exact this
  rw [Nat.add_assoc, Nat.add_comm 1 j]
  exact c (j + 1) (by omega) u (by rw [List.getElem?_cons_succ]; exact hu)

set_option maxRecDepth 100000 in
set_option maxHeartbeats 4000000 in
theorem dread_yes {W : World} {d m1 m2 : Nat} {v : Value} {D : Dk} (h : DkAt W d m1 m2 v D) (i : Int) (hm : D.may i = 0) (hlen : D.loose.length ≤ maxLen) :
    Calls Try.prog 57 #[.pointer (some ⟨d, 0, none⟩), .int .i64 i] W fun r w' => r = .returned (.tuple #[.agg ((D.seen i).map bv).toArray, .int .i64 0]) ∧ DkAt w' d m1 m2 v (D.read i) ∧ DFr W w' d m1 m2 v v := by
  have H := Lib.hid h
  have S0 := Lib.hid (fun c t hc => RW.start h c t hc)
  unfold maxLen at hlen
  clear h
  have MW := Lib.hid (fun (X : World) (hX : DkAt X d m1 m2 v D) => may_any hX i)
  rw [hm] at MW
  go_enter Try.func57, Try.ntmps57
  go_upto_region 1 with fail
  refine wp_gate (fun X => RW W X d m1 m2 v D W.heap.size) (S0.out _ _ (by rfl)) ?_
  clear S0
  intro W1 hS
  have M := Lib.hid (MW.out W1 hS.dk)
  have c5 := hS.dk.c5
  have hr := hS.dk.reads.look i
  obtain ⟨W2, hst, ht, hs2⟩ := hS.dk.reads.store i (wrap64 (D.reads i + 1))
  obtain ⟨hd2, hf2⟩ := hS.dk.readsTurned ht _ hs2
  have hS2 : RW W W2 d m1 m2 v (D.read i) W.heap.size := ⟨hS.fr.trans hf2, hd2, hS.res.of_block ((turned_block ht).2.1 _ (by have := H.out.reads.lt; omega)) hf2.size, hS.ge⟩
  have c1 := hS2.dk.c1
  have c2 := hS2.dk.c2
  have hrow : W2.ownsRow (d + 1) 145 65 v D.loose.length (loCells D.loose) := hS2.dk.row
  have HS2 := Lib.hid hS2
  have hsl : (Instr.lookup 138 (.map (some m1)) (.int .i64 i) false).run Try.prog W2 = .ok (.agg ((D.sure i).map bv).toArray) W2 := hS2.dk.sure.look i
  clear ht hs2 hd2 hf2 hS2 hS
  generalize W.heap.size = g at *
  go_wp2_with fail
  refine M.out.mono ?_
  rintro r w1 ⟨rfl, rfl⟩
  have HL := Lib.hid H.out.ok
  rcases hrow.2 with ⟨rfl, hn⟩ | ⟨gr, cap, cur, rfl, _⟩
  · have hl0 : D.loose = [] := List.eq_nil_of_length_eq_zero hn
    have HSE := Lib.hid (show D.seen i = D.sure i by unfold Dk.seen; rw [hl0]; rfl)
    have F := Lib.hid (HS2.out.stored H.out (D.sure i) (HL.out.sure i))
    clear hrow hn
    go_wp2_with fail
    go_loop [5, 7, 28, 29, 30, 31, 32, 33, 34, 35, 36, 37, 38, 39, 40, 41, 42, 43, 44, 45, 46, 47, 48, 49] (fun _ a7 _ _ _ _ _ _ _ _ _ _ _ _ _ _ _ _ _ _ _ _ _ _ => a7 = .int .i64 (-1)) (fun _ _ _ _ _ _ _ _ _ _ _ _ _ _ _ _ _ _ _ _ _ _ _ _ => 0)
    case atStart => rfl
    case round =>
      obtain rfl := hrel
      go_wp2_with (refine wpList_store56 (by rfl) _ _ (by rfl) g (by rfl) (D.sure i) (by rfl) _ HS2.out.res (HL.out.sure i) ?_)
      rw [HSE.out]
      exact bodyPost_ret (results_cell2 (p := 4) (u := 5) (ty := 56) rfl _ _ ⟨g, 0, none⟩ _ _ rfl (F.out.2.2.loadVar56) rfl) rfl ⟨rfl, F.out.2.1, F.out.1⟩
  · have HLO := Lib.hid (fun k hk => lo_at hrow HL.out.loose k hk)
    have HSN := Lib.hid (show D.seen i = (lastAt D.loose i).getD (D.sure i) from rfl)
    clear hrow
    go_wp2_with fail
    go_loop [5, 7, 28, 29, 30, 31, 32, 33, 34, 35, 36, 37, 38, 39, 40, 41, 42, 43, 44, 45, 46, 47, 48, 49] (fun _ a7 _ _ _ _ _ _ _ _ _ _ _ _ _ _ _ _ _ _ _ _ _ _ => ∃ k : Nat, k ≤ D.loose.length ∧ a7 = .int .i64 ((k : Int) - 1) ∧ lastAt (D.loose.drop k) i = none) (fun _ a7 _ _ _ _ _ _ _ _ _ _ _ _ _ _ _ _ _ _ _ _ _ _ => (intOf a7 + 1).toNat)
    case atStart => exact ⟨D.loose.length, Nat.le_refl _, rfl, by rw [List.drop_length]; rfl⟩
    case round =>
      obtain ⟨k, hk, rfl, hla⟩ := hrel
      have HLA := Lib.hid hla
      clear hla
      by_cases hk0 : 0 < k
      · obtain ⟨k', rfl⟩ : ∃ k', k = k' + 1 := ⟨k - 1, by omega⟩
        have hk1 : ((k' + 1 : Nat) : Int) - 1 = (k' : Int) := by omega
        rw [hk1]
        obtain ⟨o1, o2⟩ := HLO.out k' (by omega)
        have HO := Lib.hid o2
        have HK := Lib.hid (show lastAt (D.loose.drop k') i = if (D.loose[k']'(by omega)).1 = i then some (D.loose[k']'(by omega)).2 else none by
          rw [List.drop_eq_getElem_cons (by omega)]
          show (match lastAt (D.loose.drop (k' + 1)) i with | some p => some p | none => if (D.loose[k']'(by omega)).1 = i then some (D.loose[k']'(by omega)).2 else none) = _
          rw [HLA.out])
        have HP := Lib.hid (HL.out.loose (D.loose[k']'(by omega)) (List.getElem_mem _))
        clear o2
        obtain ⟨⟨at_, pg⟩, hx⟩ : ∃ x, D.loose[k']'(by omega) = x := ⟨_, rfl⟩
        rw [hx] at o1 HO HK HP
        clear hx
        by_cases hat : at_ = i
        · subst hat
          have F := Lib.hid (HS2.out.stored H.out pg HP.out)
          go_wp2_with (first
            | refine wpList_load56o _ (by rfl) (by rfl) gr (k' * 65 + 1) (by rfl) pg HP.out HO.out ?_
            | refine wpList_store56 (by rfl) _ _ (by rfl) g (by rfl) pg (by rfl) _ HS2.out.res HP.out ?_)
          have hse : D.seen at_ = pg := by
            rw [HSN.out, lastAt_of_drop D.loose k' at_ pg (by rw [HK.out]; simp)]; rfl
          rw [hse]
          exact bodyPost_ret (results_cell2 (p := 4) (u := 5) (ty := 56) rfl _ _ ⟨g, 0, none⟩ _ _ rfl (F.out.2.2.loadVar56) rfl) rfl ⟨rfl, F.out.2.1, F.out.1⟩
        · have hne : (at_ == i) = false := by simpa using hat
          go_wp2_with fail
          refine ⟨⟨k', by omega, rfl, by rw [HK.out, if_neg hat]⟩, ?_⟩
          simp only [intOf]; omega
      · obtain rfl : k = 0 := by omega
        have HSE := Lib.hid (show D.seen i = D.sure i by rw [HSN.out, show lastAt D.loose i = none from HLA.out]; rfl)
        have F := Lib.hid (HS2.out.stored H.out (D.sure i) (HL.out.sure i))
        go_wp2_with (refine wpList_store56 (by rfl) _ _ (by rfl) g (by rfl) (D.sure i) (by rfl) _ HS2.out.res (HL.out.sure i) ?_)
        rw [HSE.out]
        exact bodyPost_ret (results_cell2 (p := 4) (u := 5) (ty := 56) rfl _ _ ⟨g, 0, none⟩ _ _ rfl (F.out.2.2.loadVar56) rfl) rfl ⟨rfl, F.out.2.1, F.out.1⟩
end Go.Proofs.Ytmaaljfcnnlnpaa
