/-
  The walk of a disk's settle.
-/
import Derived.Test.YtmaaljfcnnlnpaaDiskWalk4
import Derived.Test.YtmaaljfcnnlnpaaWs
namespace Go.Proofs.Ytmaaljfcnnlnpaa
open Go.RowKit

theorem info145s : (Try.prog.info? 145).map (·.size) = some 65 := by kernel_rfl

/-- A write's cells. -/
def wrC (x : Wr) : List Value := Value.int .i64 x.1 :: x.2.map bv

theorem lo_range {W : World} {base g cap n : Nat} {l : List Wr} (h : W.ownsRow base 145 65 (.slice (some ⟨g, 0, none⟩) n cap) n (loCells l)) (hl : ∀ x ∈ l, x.2.length = 64) (k : Nat) (hk : k < l.length) : W.rangeAt g (k * 65) (wrC l[k]) := fun j u hu => by
  have hj : j < 65 := by
    have := (List.getElem?_eq_some_iff.1 hu).1
    have h2 := hl _ (List.getElem_mem hk)
    simp [wrC] at this
    omega
  exact own_cell h (k * 65 + j) u ((loCells_get l hl k j hk hj).trans hu)

section
variable {ops : Array Oper} {rest : List Oper} {op : Oper} {a : Act} {w : World} {Q : Exit → Act → World → Prop}
theorem wpList_load145 (x : Operand) (ho : op.op = .load 145 x) (hw : Region.wanted op (yielded ops a.tmps) = true) (g o : Nat) (hx : a.eval x = .pointer (some ⟨g, o, none⟩)) (y : Wr) (hy : y.2.length = 64) (hb : w.rangeAt g o (wrC y))
    (h : wpList Try.prog ops Q rest (a.put op.dst (.agg (wrC y).toArray)) w) : wpList Try.prog ops Q (op :: rest) a w :=
  wpList_wanted hw (wp_load_mid 145 x ho g o hx (wrC y) _ hb Try.underlying145 rfl (by rw [info145s]; simp [wrC, hy]) h)

/-- A write laid into a new block: the world behind it is a letter. -/
theorem wpList_new145 (hgd : op.guard = none) (x y : Operand) (ho : op.op = .store 145 x y) (w0 : World) (c : Array Value) (hw : w = w0.alloc (.cells c 145)) (hc : c = (wrC (0, zero64)).toArray) (hx : a.eval x = .pointer (some ⟨w0.heap.size, 0, none⟩))
    (u : Wr) (hy : a.eval y = .agg (wrC u).toArray) (hu : u.2.length = 64)
    (h : ∀ W', W'.rangeAt w0.heap.size 0 (wrC u) → Below w0.heap.size w0 W' → w0.heap.size < W'.heap.size → wpList Try.prog ops Q rest (a.put op.dst undef) W') : wpList Try.prog ops Q (op :: rest) a w := by
  subst hw hc
  have hlen : (wrC u).length = 65 := by simp [wrC, hu]
  have hz : (wrC (0, zero64)).length = 65 := rfl
  have hth : (w0.alloc (.cells (wrC (0, zero64)).toArray 145)).there w0.heap.size 0 (wrC u).length := fun j hj => by
    rw [Nat.zero_add]
    exact ⟨by rw [World.cell?_alloc_new]; simp [hz]; omega, World.frozen?_alloc_new _ _ _ _⟩
  have hone : ((wrC u).toArray).all (·.oneCell') = true := by
    refine all_oneCell_toArray (fun v hv => ?_)
    rcases List.mem_cons.1 hv with rfl | hv
    · rfl
    · obtain ⟨x, _, rfl⟩ := List.mem_map.1 hv
      rfl
  refine wpList_store_mid hgd 145 x y ho w0.heap.size 0 (wrC u).toArray hx hy (by simpa using hth) (by rw [info145s]; simp [hlen]) hone ?_
  refine h _ (World.rangeAt_setCells_same _ _ _ _ hth) (below_setCells (Nat.le_refl _) _ _ _ ((Below.refl _ _).alloc (Nat.le_refl _) _)) ?_
  rw [heap_size_setCells]; simp
end

theorem sync1_any (n : Int) (w : World) : Calls Try.prog 94 #[.int .i64 n] w fun r w' => r = .returned (.bool true) ∧ w = w' := by
  go_enter Try.func94, Try.ntmps94
  go_wp2
  go_ret
  exact ⟨rfl, rfl⟩

/-- The disk while its writes are being settled. -/
structure ST (W W' : World) (d m1 m2 : Nat) (v : Value) (D : Dk) (k : Nat → Bool) (j : Nat) : Prop where
  dk : DkAt W' d m1 m2 v { D with sure := stl k (D.loose.take j) D.sure }
  fr : DFr W W' d m1 m2 v v

theorem ST.step {W X Y : World} {d m1 m2 : Nat} {v : Value} {D : Dk} {k : Nat → Bool} {j : Nat} (h : ST W X d m1 m2 v D k j) (hb : Below X.heap.size X Y) : ST W Y d m1 m2 v D k j :=
  ⟨h.dk.below hb, h.fr.trans (DFr.of_below hb _ _ _ _)⟩

theorem ST.kept {W X Y : World} {d m1 m2 : Nat} {v : Value} {D : Dk} {k : Nat → Bool} {j : Nat} (h : ST W X d m1 m2 v D k j) (x : Wr) (hx : x.2.length = 64) (hT : stl k (D.loose.take (j + 1)) D.sure = put (stl k (D.loose.take j) D.sure) x.1 x.2)
    (ht : X.mapTurned Y m1) (hs : SureAt Y m1 (put (stl k (D.loose.take j) D.sure) x.1 x.2)) : ST W Y d m1 m2 v D k (j + 1) := by
  have hl : ∀ i, (put (stl k (D.loose.take j) D.sure) x.1 x.2 i).length = 64 := fun i => by
    unfold put
    split
    · exact hx
    · exact h.dk.ok.sure i
  obtain ⟨d1, f1⟩ := h.dk.sureTurned ht _ hs hl
  exact ⟨by rw [hT]; exact d1, h.fr.trans f1⟩

theorem ST.done {W X : World} {d m1 m2 : Nat} {v : Value} {D : Dk} {k : Nat → Bool} {n : Nat} (h : ST W X d m1 m2 v D k n) (hn : D.loose.length ≤ n) :
    DkAt (X.setCell ⟨d, 2, none⟩ (.slice none 0 0)) d m1 m2 (.slice none 0 0) (D.settled k) ∧ DFr W (X.setCell ⟨d, 2, none⟩ (.slice none 0 0)) d m1 m2 v (.slice none 0 0) := by
  have hd := h.dk.setRow (v' := .slice none 0 0) [] (fun x hx => by cases hx) ⟨rfl, .inl ⟨rfl, rfl⟩⟩
  have e : stl k (D.loose.take n) D.sure = stl k D.loose D.sure := by rw [List.take_of_length_le hn]
  rw [e] at hd
  refine ⟨hd, h.fr.os, h.fr.tape, h.fr.output, by rw [setCell_size]; exact h.fr.size, fun b hb a1 a2 a3 a4 => (Below.heap_setCell X ⟨d, 2, none⟩ _ b a1).trans (h.fr.block b hb a1 a2 a3 a4), fun b hb => by cases hb⟩

set_option maxRecDepth 100000 in
set_option maxHeartbeats 4000000 in
theorem settle94 {W : World} {d m1 m2 : Nat} {v : Value} {D : Dk} (h : DkAt W d m1 m2 v D) (hlen : D.loose.length ≤ 100000) (k : Nat → Bool)
    (hk : ∀ X n, DFr W X d m1 m2 v v → Calls Try.prog 94 #[.int .i64 (n : Nat)] X fun r w' => r = .returned (.bool (k n)) ∧ X = w') :
    Calls Try.prog 91 #[.pointer (some ⟨d, 0, none⟩), .func (.func 94) #[] #[]] W fun r w' => r = .returned (.tuple #[]) ∧ DkAt w' d m1 m2 (.slice none 0 0) (D.settled k) ∧ DFr W w' d m1 m2 v (.slice none 0 0) := by
  have c2 := h.c2
  have H := Lib.hid h
  have HK := Lib.hid hk
  clear h hk
  rcases H.out.row.2 with ⟨rfl, hn⟩ | ⟨gr, cap, cur, rfl, _⟩
  · have f2 := H.out.fz 2
    have S0 : ST W W d m1 m2 (.slice none 0 0) D k 0 := ⟨by rw [List.take_zero]; exact H.out, DFr.refl _ _ _ _ _⟩
    have F := Lib.hid (S0.done (by omega))
    clear S0
    go_enter Try.func91, Try.ntmps91
    go_wp2_with fail
    go_loop [4, 5, 11, 12, 13, 14, 15, 16, 17, 18, 19, 20, 21, 22, 23, 24, 25, 26, 27] (fun _ _ a11 _ _ _ _ _ _ _ _ _ _ _ _ _ _ _ _ => a11 = .int .i64 0) (fun _ _ _ _ _ _ _ _ _ _ _ _ _ _ _ _ _ _ _ => 0)
    case atStart => rfl
    case round =>
      obtain rfl := hrel
      go_wp2_with fail
      exact ⟨rfl, .tuple #[], by simp [results, Try.results91], rfl, F.out⟩
  · go_enter Try.func91, Try.ntmps91
    go_wp2_with fail
    go_loopw [4, 5, 11, 12, 13, 14, 15, 16, 17, 18, 19, 20, 21, 22, 23, 24, 25, 26, 27] (fun _ _ a11 _ _ _ _ _ _ _ _ _ _ _ _ _ _ _ _ wr => ∃ j : Nat, j ≤ D.loose.length ∧ a11 = .int .i64 j ∧ ST W wr d m1 m2 (.slice (some ⟨gr, 0, none⟩) D.loose.length cap) D k j) (fun _ _ a11 _ _ _ _ _ _ _ _ _ _ _ _ _ _ _ _ _ => D.loose.length - (intOf a11).toNat)
    case atStart => exact ⟨0, Nat.zero_le _, rfl, by rw [List.take_zero]; exact H.out, DFr.refl _ _ _ _ _⟩
    case round =>
      obtain ⟨j, hj, rfl, hS⟩ := hrel
      have HS := Lib.hid hS
      by_cases hlt : j < D.loose.length
      · have hrow : wr.ownsRow (d + 1) 145 65 (.slice (some ⟨gr, 0, none⟩) D.loose.length cap) D.loose.length (loCells D.loose) := hS.dk.row
        obtain ⟨x, hx⟩ : ∃ x, D.loose[j] = x := ⟨_, rfl⟩
        have HR := Lib.hid (lo_range hrow H.out.ok.loose j hlt)
        have HX := Lib.hid (H.out.ok.loose x (hx ▸ List.getElem_mem hlt))
        have HT := Lib.hid (stl_take k D.loose j hlt D.sure)
        rw [hx] at HR HT
        clear hS hrow hx
        go_wp2_with (first
          | refine wpList_load145 _ (by rfl) (by rfl) gr (j * 65) (by rfl) x HX.out HR.out ?_
          | (refine wpList_new145 (by rfl) _ _ (by rfl) _ _ rfl (by rfl) (by rfl) x (by rfl) HX.out ?_; intro w2 hr2 hb2 _; have HR2 := Lib.hid hr2; have HS2 := Lib.hid (HS.out.step hb2); clear hr2 hb2))
        refine (HK.out _ j HS2.out.fr).mono ?_
        rintro r w3 ⟨rfl, rfl⟩
        rcases Bool.eq_false_or_eq_true (k j) with hkj | hkj
        · rw [hkj]
          rw [hkj, if_pos rfl] at HT
          have HS3 := Lib.hid (HS2.out.step (Below.refl _ _).drew)
          obtain ⟨W9, hst, ht, hs⟩ := HS3.out.dk.sure.store x.1 x.2
          have HE := Lib.hid (HS3.out.kept x HX.out HT.out ht hs)
          have hc1 : ∀ y : WS (fun X => X = w2.drew), y.w.cell? ⟨d, 1, none⟩ = some (.map (some m1)) := fun y => by rw [y.ok]; exact HS3.out.dk.c1
          have hc0 : ∀ y : WS (fun X => X = w2.drew), y.w.cell? ⟨wr.heap.size, 0, none⟩ = some (.int .i64 x.1) := fun y => by rw [y.ok]; exact HR2.out 0 _ rfl
          have hl56 : ∀ y : WS (fun X => X = w2.drew), (Instr.loadAt 56 (.pointer (some ⟨wr.heap.size, 1, none⟩))).run Try.prog y.w = .ok (.agg (x.2.map bv).toArray) y.w := fun y => by
            rw [y.ok]
            refine run_loadAt_mid w2.drew wr.heap.size 1 56 (x.2.map bv) _ (fun q u hu => ?_) Try.underlying56 rfl (by rw [info56, List.length_map, HX.out])
            have := HR2.out (q + 1) u (by unfold wrC; rw [List.getElem?_cons_succ]; exact hu)
            rw [show 0 + (q + 1) = 1 + q by omega] at this
            exact this
          haveI : Nonempty (WS (fun X => X = w2.drew)) := ⟨⟨w2.drew, rfl⟩⟩
          clear ht hs
          go_upto_region 4 with fail
          refine wp_region_ws_tail (fun X => X = w2.drew) 8 (by kernel_rfl) (by kernel_rfl) rfl ?_
          simp only [List.take_succ_cons, List.take_zero, List.drop_succ_cons, List.drop_zero]
          repeat (first
            | (go_big_quiet_step (fail))
            | (go_big_quiet_want; refine quiet_load 56 _ (by rfl) _ (by rfl) _ hl56 ?_; go_simp; go_big_quiet_on))
          refine wpQuiet_nil ?_
          intro w8 hw8
          obtain rfl : w8 = w2.drew := hw8
          clear hc1 hc0 hl56 this
          go_wp2_with fail
          refine ⟨⟨j + 1, by omega, by simp, HE.out⟩, by simp only [intOf]; omega⟩
        · rw [hkj]
          rw [hkj, if_neg (by decide)] at HT
          have HE := Lib.hid (show ST W w2 d m1 m2 (.slice (some ⟨gr, 0, none⟩) D.loose.length cap) D k (j + 1) from ⟨by rw [HT.out]; exact HS2.out.dk, HS2.out.fr⟩)
          go_wp2_with fail
          refine ⟨⟨j + 1, by omega, by simp, HE.out⟩, by simp only [intOf]; omega⟩
      · have hje : j = D.loose.length := by omega
        subst hje
        have c2r := hS.dk.c2
        have f2r := hS.dk.fz 2
        have F := Lib.hid (hS.done (Nat.le_refl _))
        clear hS
        go_wp2_with fail
        exact ⟨rfl, .tuple #[], by simp [results, Try.results91], rfl, F.out⟩

set_option maxRecDepth 100000 in
set_option maxHeartbeats 4000000 in
theorem settle92 {W : World} {d m1 m2 : Nat} {v : Value} {D : Dk} (h : DkAt W d m1 m2 v D) (hlen : D.loose.length ≤ 100000) (bk : Nat) (k : Nat → Bool)
    (hk : ∀ X n, DFr W X d m1 m2 v v → Calls Try.prog 92 #[.int .i64 (n : Nat), .pointer (some ⟨bk, 0, none⟩)] X fun r w' => r = .returned (.bool (k n)) ∧ X = w') :
    Calls Try.prog 91 #[.pointer (some ⟨d, 0, none⟩), .func (.func 92) #[] #[.pointer (some ⟨bk, 0, none⟩)]] W fun r w' => r = .returned (.tuple #[]) ∧ DkAt w' d m1 m2 (.slice none 0 0) (D.settled k) ∧ DFr W w' d m1 m2 v (.slice none 0 0) := by
  have c2 := h.c2
  have H := Lib.hid h
  have HK := Lib.hid hk
  clear h hk
  rcases H.out.row.2 with ⟨rfl, hn⟩ | ⟨gr, cap, cur, rfl, _⟩
  · have f2 := H.out.fz 2
    have S0 : ST W W d m1 m2 (.slice none 0 0) D k 0 := ⟨by rw [List.take_zero]; exact H.out, DFr.refl _ _ _ _ _⟩
    have F := Lib.hid (S0.done (by omega))
    clear S0
    go_enter Try.func91, Try.ntmps91
    go_wp2_with fail
    go_loop [4, 5, 11, 12, 13, 14, 15, 16, 17, 18, 19, 20, 21, 22, 23, 24, 25, 26, 27] (fun _ _ a11 _ _ _ _ _ _ _ _ _ _ _ _ _ _ _ _ => a11 = .int .i64 0) (fun _ _ _ _ _ _ _ _ _ _ _ _ _ _ _ _ _ _ _ => 0)
    case atStart => rfl
    case round =>
      obtain rfl := hrel
      go_wp2_with fail
      exact ⟨rfl, .tuple #[], by simp [results, Try.results91], rfl, F.out⟩
  · go_enter Try.func91, Try.ntmps91
    go_wp2_with fail
    go_loopw [4, 5, 11, 12, 13, 14, 15, 16, 17, 18, 19, 20, 21, 22, 23, 24, 25, 26, 27] (fun _ _ a11 _ _ _ _ _ _ _ _ _ _ _ _ _ _ _ _ wr => ∃ j : Nat, j ≤ D.loose.length ∧ a11 = .int .i64 j ∧ ST W wr d m1 m2 (.slice (some ⟨gr, 0, none⟩) D.loose.length cap) D k j) (fun _ _ a11 _ _ _ _ _ _ _ _ _ _ _ _ _ _ _ _ _ => D.loose.length - (intOf a11).toNat)
    case atStart => exact ⟨0, Nat.zero_le _, rfl, by rw [List.take_zero]; exact H.out, DFr.refl _ _ _ _ _⟩
    case round =>
      obtain ⟨j, hj, rfl, hS⟩ := hrel
      have HS := Lib.hid hS
      by_cases hlt : j < D.loose.length
      · have hrow : wr.ownsRow (d + 1) 145 65 (.slice (some ⟨gr, 0, none⟩) D.loose.length cap) D.loose.length (loCells D.loose) := hS.dk.row
        obtain ⟨x, hx⟩ : ∃ x, D.loose[j] = x := ⟨_, rfl⟩
        have HR := Lib.hid (lo_range hrow H.out.ok.loose j hlt)
        have HX := Lib.hid (H.out.ok.loose x (hx ▸ List.getElem_mem hlt))
        have HT := Lib.hid (stl_take k D.loose j hlt D.sure)
        rw [hx] at HR HT
        clear hS hrow hx
        go_wp2_with (first
          | refine wpList_load145 _ (by rfl) (by rfl) gr (j * 65) (by rfl) x HX.out HR.out ?_
          | (refine wpList_new145 (by rfl) _ _ (by rfl) _ _ rfl (by rfl) (by rfl) x (by rfl) HX.out ?_; intro w2 hr2 hb2 _; have HR2 := Lib.hid hr2; have HS2 := Lib.hid (HS.out.step hb2); clear hr2 hb2))
        refine (HK.out _ j HS2.out.fr).mono ?_
        rintro r w3 ⟨rfl, rfl⟩
        rcases Bool.eq_false_or_eq_true (k j) with hkj | hkj
        · rw [hkj]
          rw [hkj, if_pos rfl] at HT
          have HS3 := Lib.hid (HS2.out.step (Below.refl _ _).drew)
          obtain ⟨W9, hst, ht, hs⟩ := HS3.out.dk.sure.store x.1 x.2
          have HE := Lib.hid (HS3.out.kept x HX.out HT.out ht hs)
          have hc1 : ∀ y : WS (fun X => X = w2.drew), y.w.cell? ⟨d, 1, none⟩ = some (.map (some m1)) := fun y => by rw [y.ok]; exact HS3.out.dk.c1
          have hc0 : ∀ y : WS (fun X => X = w2.drew), y.w.cell? ⟨wr.heap.size, 0, none⟩ = some (.int .i64 x.1) := fun y => by rw [y.ok]; exact HR2.out 0 _ rfl
          have hl56 : ∀ y : WS (fun X => X = w2.drew), (Instr.loadAt 56 (.pointer (some ⟨wr.heap.size, 1, none⟩))).run Try.prog y.w = .ok (.agg (x.2.map bv).toArray) y.w := fun y => by
            rw [y.ok]
            refine run_loadAt_mid w2.drew wr.heap.size 1 56 (x.2.map bv) _ (fun q u hu => ?_) Try.underlying56 rfl (by rw [info56, List.length_map, HX.out])
            have := HR2.out (q + 1) u (by unfold wrC; rw [List.getElem?_cons_succ]; exact hu)
            rw [show 0 + (q + 1) = 1 + q by omega] at this
            exact this
          haveI : Nonempty (WS (fun X => X = w2.drew)) := ⟨⟨w2.drew, rfl⟩⟩
          clear ht hs
          go_upto_region 4 with fail
          refine wp_region_ws_tail (fun X => X = w2.drew) 8 (by kernel_rfl) (by kernel_rfl) rfl ?_
          simp only [List.take_succ_cons, List.take_zero, List.drop_succ_cons, List.drop_zero]
          repeat (first
            | (go_big_quiet_step (fail))
            | (go_big_quiet_want; refine quiet_load 56 _ (by rfl) _ (by rfl) _ hl56 ?_; go_simp; go_big_quiet_on))
          refine wpQuiet_nil ?_
          intro w8 hw8
          obtain rfl : w8 = w2.drew := hw8
          clear hc1 hc0 hl56 this
          go_wp2_with fail
          refine ⟨⟨j + 1, by omega, by simp, HE.out⟩, by simp only [intOf]; omega⟩
        · rw [hkj]
          rw [hkj, if_neg (by decide)] at HT
          have HE := Lib.hid (show ST W w2 d m1 m2 (.slice (some ⟨gr, 0, none⟩) D.loose.length cap) D k (j + 1) from ⟨by rw [HT.out]; exact HS2.out.dk, HS2.out.fr⟩)
          go_wp2_with fail
          refine ⟨⟨j + 1, by omega, by simp, HE.out⟩, by simp only [intOf]; omega⟩
      · have hje : j = D.loose.length := by omega
        subst hje
        have c2r := hS.dk.c2
        have f2r := hS.dk.fz 2
        have F := Lib.hid (hS.done (Nat.le_refl _))
        clear hS
        go_wp2_with fail
        exact ⟨rfl, .tuple #[], by simp [results, Try.results91], rfl, F.out⟩

end Go.Proofs.Ytmaaljfcnnlnpaa
