/-
  The walk of a disk's Write.
-/
import Derived.Test.YtmaaljfcnnlnpaaDiskWalk3
import Derived.Deep.AppendLies
namespace Go.Proofs.Ytmaaljfcnnlnpaa
open Go.RowKit

/-- Values laid one after another over those that stood there. -/
theorem fold_set (vs : List Value) : ∀ (k o : Nat) (a : Array Value), o + k + vs.length ≤ a.size →
    (vs.zipIdx k).foldl (fun (cs : Array Value) (x : Value × Nat) => cs.setIfInBounds (o + x.2) x.1) a = (a.toList.take (o + k) ++ vs ++ a.toList.drop (o + k + vs.length)).toArray := by
  induction vs with
  | nil => intro k o a _; simp
  | cons v vs ih =>
    intro k o a h
    simp only [List.length_cons] at h
    rw [List.zipIdx_cons, List.foldl_cons, ih (k + 1) o _ (by simp; omega)]
    congr 1
    have hlt : o + k < a.toList.length := by simp; omega
    simp only [Array.toList_setIfInBounds, List.length_cons]
    rw [show o + (k + 1) = o + k + 1 by omega, show o + k + 1 + vs.length = o + k + (vs.length + 1) by omega]
    rw [List.take_succ_eq_append_getElem (by simpa using hlt), List.getElem_set_self, List.take_set_of_le (Nat.le_refl _), List.drop_set_of_lt (by omega)]
    simp

set_option maxRecDepth 100000 in
theorem fold_build (i : Int) (p : List UInt8) (hp : p.length = 64) :
    List.foldl (fun (cs : Array Value) (x : Value × Nat) => cs.setIfInBounds (1 + x.2) x.1) (Try.zeroCells145.setIfInBounds 0 (Value.int IntKind.i64 i)) (p.map bv).zipIdx = (Value.int .i64 i :: p.map bv).toArray := by
  have hz : (Try.zeroCells145.setIfInBounds 0 (Value.int IntKind.i64 i)).size = 65 := by simp
  rw [fold_set (p.map bv) 0 1 _ (by rw [hz]; simp [hp])]
  congr 1
  rw [List.drop_of_length_le (by rw [Array.length_toList, hz]; simp [hp])]
  have : (Try.zeroCells145.setIfInBounds 0 (Value.int IntKind.i64 i)).toList.take (1 + 0) = [Value.int .i64 i] := by kernel_rfl
  rw [this]
  simp

theorem fold_slice (p : List UInt8) (hp : p.length = 64) (a : Array Value) (ha : a.size = 65) :
    List.foldl (fun (cs : Array Value) (x : Value × Nat) => cs.setIfInBounds x.2 x.1) a ((p.map bv).zipIdx 1) = (a.toList.take 1 ++ p.map bv).toArray := by
  have h := fold_set (p.map bv) 1 0 a (by simp [ha, hp])
  simp only [Nat.zero_add] at h
  rw [h, List.drop_of_length_le (by rw [Array.length_toList, ha]; simp [hp])]
  simp

theorem DkAt.row_ne {W : World} {d m1 m2 : Nat} {v : Value} {D : Dk} (h : DkAt W d m1 m2 v D) : some d ≠ v.ownBlock := fun e => by
  have := (ownsRow_ge h.row e.symm).1
  omega

/-- A row that has been appended to is laid into the struct. -/
theorem DkAt.appended {w X w9 : World} {d m1 m2 : Nat} {v : Value} {D : Dk} {g2 cap n : Nat} (h : DkAt w d m1 m2 v D) (hX : Below w.heap.size w X) (hg : X.grownBy w9 v.ownBlock) (l : List Wr)
    (ho : w9.ownsRow (d + 1) 145 65 (.slice (some ⟨g2, 0, none⟩) n cap) l.length (loCells l)) (hl : ∀ x ∈ l, x.2.length = 64) (hloc : v.ownBlock = some g2 ∨ g2 = X.heap.size) :
    DkAt (w9.setCell ⟨d, 2, none⟩ (.slice (some ⟨g2, 0, none⟩) n cap)) d m1 m2 (.slice (some ⟨g2, 0, none⟩) n cap) { D with loose := l } ∧ DFr w (w9.setCell ⟨d, 2, none⟩ (.slice (some ⟨g2, 0, none⟩) n cap)) d m1 m2 v (.slice (some ⟨g2, 0, none⟩) n cap) := by
  have o1 := h.o1
  have o2 := h.o2
  have lt := h.lt
  have k : ∀ b, b < w.heap.size → v.ownBlock ≠ some b → w9.heap[b]? = w.heap[b]? := fun b hb hne => (hg.block b (Nat.lt_of_lt_of_le hb hX.size) (fun e => hne e.symm)).trans (hX.block b hb)
  have nd : ∀ b, b ≤ d → v.ownBlock ≠ some b := fun b hb e => by have := (ownsRow_ge h.row e).1; omega
  have s : ∀ b, b ≠ d → (w9.setCell ⟨d, 2, none⟩ (.slice (some ⟨g2, 0, none⟩) n cap)).heap[b]? = w9.heap[b]? := fun b hb => Below.heap_setCell w9 ⟨d, 2, none⟩ _ b hb
  have cd : ∀ i, w9.cell? ⟨d, i, none⟩ = w.cell? ⟨d, i, none⟩ := fun i => World.cell?_of_block (a := ⟨d, i, none⟩) (k d lt (nd d (Nat.le_refl _)))
  have fd : ∀ i, w9.frozen? ⟨d, i, none⟩ = w.frozen? ⟨d, i, none⟩ := fun i => World.frozen?_of_block (a := ⟨d, i, none⟩) (k d lt (nd d (Nat.le_refl _)))
  have c : ∀ i, i ≠ 2 → (w9.setCell ⟨d, 2, none⟩ (.slice (some ⟨g2, 0, none⟩) n cap)).cell? ⟨d, i, none⟩ = w.cell? ⟨d, i, none⟩ := fun i hi =>
    (World.cell?_setCell_other _ _ _ _ (fun e => hi (by injection e with _ e2; exact e2.symm))).trans (cd i)
  have hsz : w.heap.size ≤ w9.heap.size := Nat.le_trans hX.size hg.size
  have hgd : d + 1 ≤ g2 := (ownsRow_ge ho rfl).1
  refine ⟨⟨(c 0 (by decide)).trans h.c0, (c 1 (by decide)).trans h.c1, World.cell?_setCell_same _ _ _ ((cd 2).trans h.c2), (c 3 (by decide)).trans h.c3, (c 4 (by decide)).trans h.c4, (c 5 (by decide)).trans h.c5,
    fun i => by rw [World.frozen?_setCell]; exact (fd i).trans (h.fz i), h.sure.of_block ((s m1 (by omega)).trans (k m1 h.sure.lt (nd m1 (by omega)))), h.reads.of_block ((s m2 (by omega)).trans (k m2 h.reads.lt (nd m2 (by omega)))),
    ownsRow_of_block ho (fun g hgg => s g (Nat.ne_of_gt (Nat.lt_of_lt_of_le (Nat.lt_succ_self d) (ownsRow_ge ho hgg).1))), h.o1, h.o2, by rw [setCell_size]; omega, ⟨h.ok.sure, hl⟩⟩,
    hg.os.trans hX.os, hg.tape.trans hX.tape, hg.output.trans hX.output, by rw [setCell_size]; exact hsz, fun b hb a1 a2 a3 a4 => (s b a1).trans (k b hb a4), fun b hb => ?_⟩
  cases hb
  rcases hloc with e | e
  · exact .inl e
  · exact .inr (by rw [e]; exact hX.size)

theorem info145 : (Try.prog.info? 145).map (fun i => (i.zero, i.size, i.bytes)) = some (some (.agg (Value.int .i64 0 :: zero64.map bv).toArray), 65, 72) := by kernel_rfl

set_option maxRecDepth 100000 in
set_option maxHeartbeats 4000000 in
theorem dwrite_yes {W : World} {d m1 m2 : Nat} {v : Value} {D : Dk} (h : DkAt W d m1 m2 v D) (i : Int) (p : List UInt8) (hp : p.length = 64) (hm : D.may i = 0) (hf : D.fuse ≠ 0) (hf2 : -1 ≤ D.fuse ∧ D.fuse ≤ 9223372036854775807) (hlen : D.loose.length ≤ 100000) :
    Calls Try.prog 54 #[.pointer (some ⟨d, 0, none⟩), .int .i64 i, .agg (p.map bv).toArray] W fun r w' => ∃ v', r = .returned (.int .i64 0) ∧ DkAt w' d m1 m2 v' (D.burnt.wrote i p) ∧ DFr W w' d m1 m2 v v' := by
  have M := Lib.hid (fun (X : World) (hX : DkAt X d m1 m2 v D) => may_any hX i)
  rw [hm] at M
  have hB : Below W.heap.size W (W.alloc (.cells (p.map bv).toArray 56)) := (Below.refl _ _).alloc (Nat.le_refl _) _
  have H := Lib.hid (h.below hB)
  have HB := Lib.hid (Buf.new W p _ 56 rfl hp)
  have HF := Lib.hid (DFr.of_below hB d m1 m2 v)
  have HLT := Lib.hid h.lt
  have HRW : Hid (∀ k, k = d ∨ k = m1 ∨ k = m2 ∨ v.ownBlock = some k → k ≠ W.heap.size) := Lib.hid fun k hk => by
    have o1 := h.o1
    have o2 := h.o2
    have lt := h.lt
    rcases hk with rfl | rfl | rfl | hk
    · omega
    · omega
    · omega
    · have := (ownsRow_ge h.row hk).2
      omega
  clear h hB
  go_enter Try.func54, Try.ntmps54
  go_wp2_with fail
  refine (M.out _ H.out).mono ?_
  rintro r w1 ⟨rfl, rfl⟩
  go_wp2_with fail
  refine (burn_any H.out hf2).mono ?_
  rintro r w1 ⟨rfl, hd, hfr⟩
  rw [if_neg hf]
  have hb1 : Buf w1 W.heap.size p := HB.out.of_block (hfr.block W.heap.size HB.out.lt (fun e => HRW.out _ (.inl e) rfl) (fun e => HRW.out _ (.inr (.inl e)) rfl) (fun e => HRW.out _ (.inr (.inr (.inl e))) rfl) (fun e => HRW.out _ (.inr (.inr (.inr e))) rfl)) hfr.size
  have hD : D.burn = D.burnt := by unfold Dk.burn; rw [if_neg hf]
  rw [hD] at hd
  have HD := Lib.hid hd
  have HF1 := Lib.hid (HF.out.trans hfr)
  have c2 := hd.c2
  have hrg := hb1.range
  have hi56 : (Try.prog.info? 56).map (·.size) = some (p.map bv).length := by rw [info56, List.length_map, hp]
  have hu56 := Try.underlying56
  have k1 := fold_build i p hp
  have k2 := fold_slice p hp
  obtain ⟨i0, hi, hz0, hz1, hz2⟩ := info_parts info145
  have HI := Lib.hid (And.intro hi (And.intro hz0 (And.intro hz1 hz2)))
  clear hD hd hfr hb1 H HF HB hi hz0 hz1 hz2
  go_upto_region 7 with fail
  have hcc : w1.drew.cell? ⟨d, 2, none⟩ = some v := c2
  have hrd : w1.drew.rangeAt W.heap.size 0 (p.map bv) := hrg
  have hcn : (w1.alloc (.cells (Value.int .i64 i :: p.map bv).toArray 145)).cell? ⟨d, 2, none⟩ = some v := by
    rw [World.cell?_alloc_lt _ _ _ HD.out.lt]; exact c2
  have HL : Hid (∀ x ∈ D.loose ++ [(i, p)], x.2.length = 64) := Lib.hid (HD.out.ok.wrote i p hp).loose
  have HX : Hid (Below w1.heap.size w1 (w1.alloc (.cells (Value.int .i64 i :: p.map bv).toArray 145)).drew) := Lib.hid ((Below.refl _ _).alloc (Nat.le_refl _) _).drew
  have HA : Hid ((w1.alloc (.cells (Value.int .i64 i :: p.map bv).toArray 145)).drew.ownsRow (d + 1) 145 65 v D.loose.length (loCells D.loose) ∧
      (∀ j u, (Value.int .i64 i :: p.map bv)[j]? = some u → (w1.alloc (.cells (Value.int .i64 i :: p.map bv).toArray 145)).drew.cell? ((⟨w1.heap.size, 0, none⟩ : Addr).add j) = some u) ∧
      (∀ u ∈ (Value.int .i64 i :: p.map bv), u.oneCell' = true) ∧ d + 1 ≤ (w1.alloc (.cells (Value.int .i64 i :: p.map bv).toArray 145)).drew.heap.size) := by
    refine Lib.hid ⟨ownsRow_of_block HD.out.row (fun g hg => HX.out.block g (ownsRow_ge HD.out.row hg).2), fun j u hu => ?_, fun u hu => ?_, ?_⟩
    · rw [addr_add, Nat.zero_add]
      show (w1.alloc (.cells (Value.int .i64 i :: p.map bv).toArray 145)).cell? ⟨w1.heap.size, j, none⟩ = some u
      rw [World.cell?_alloc_new]
      simpa using hu
    · rcases List.mem_cons.1 hu with rfl | hu
      · rfl
      · obtain ⟨x, _, rfl⟩ := List.mem_map.1 hu
        rfl
    · exact Nat.le_trans HD.out.lt HX.out.size
  have HC2 : Hid (∀ w9, (w1.alloc (.cells (Value.int .i64 i :: p.map bv).toArray 145)).drew.grownBy w9 v.ownBlock → w9.cell? ⟨d, 2, none⟩ = some v) := Lib.hid fun w9 hg =>
    (World.cell?_of_block (a := ⟨d, 2, none⟩) (hg.block d (Nat.lt_of_lt_of_le HD.out.lt HX.out.size) (HD.out.row_ne))).trans hcn
  have HC3 : Hid (∀ w9, (w1.alloc (.cells (Value.int .i64 i :: p.map bv).toArray 145)).drew.grownBy w9 v.ownBlock → w9.frozen? ⟨d, 2, none⟩ = false) := Lib.hid fun w9 hg =>
    (World.frozen?_of_block (a := ⟨d, 2, none⟩) (hg.block d (Nat.lt_of_lt_of_le HD.out.lt HX.out.size) (HD.out.row_ne))).trans ((HX.out.frozen (p := ⟨d, 2, none⟩) HD.out.lt).trans (HD.out.fz 2))
  refine wp_region_any (by kernel_rfl) ?_
  change wpAny _ _ _ _ _ _ _ w1.drew
  refine wpAny_take (i := 0) (v := (.pointer (some ⟨d, 0, none⟩))) rfl (by kernel_rfl) (by kernel_rfl) (by kernel_rfl) (fun _ _ _ h => h) (Or.inl ⟨by rfl, by intro w; go_simp⟩) ?_
  simp only [Act.put, List.setIfInBounds_toArray, List.set_cons_zero, List.set_cons_succ]
  refine wpAny_take (i := 1) (v := (.pointer (some ⟨d, 0, none⟩))) rfl (by kernel_rfl) (by kernel_rfl) (by kernel_rfl) (fun _ _ _ h => h) (Or.inl ⟨by rfl, by intro w; go_simp⟩) ?_
  simp only [Act.put, List.setIfInBounds_toArray, List.set_cons_zero, List.set_cons_succ]
  refine wpAny_take (i := 2) (v := (.pointer (some ⟨d, 0, none⟩))) rfl (by kernel_rfl) (by kernel_rfl) (by kernel_rfl) (fun _ _ _ h => h) (Or.inl ⟨by rfl, by intro w; go_simp⟩) ?_
  simp only [Act.put, List.setIfInBounds_toArray, List.set_cons_zero, List.set_cons_succ]
  refine wpAny_take (i := 3) (v := (.pointer (some ⟨d, 2, none⟩))) rfl (by kernel_rfl) (by kernel_rfl) (by kernel_rfl) (fun _ _ _ h => h) (Or.inl ⟨by rfl, by intro w; go_simp⟩) ?_
  simp only [Act.put, List.setIfInBounds_toArray, List.set_cons_zero, List.set_cons_succ]
  refine wpAny_take (i := 5) (v := (.int .i64 i)) rfl (by kernel_rfl) (by kernel_rfl) (by kernel_rfl) (fun _ _ _ h => h) (Or.inl ⟨by rfl, by intro w; go_simp⟩) ?_
  simp only [Act.put, List.setIfInBounds_toArray, List.set_cons_zero, List.set_cons_succ]
  refine wpAny_ready (rs := [4, 6]) (by kernel_rfl) (by simp) ?_
  refine AllReady.cons rfl (fun K hK => ?_) (AllReady.cons rfl (fun K hK => ?_) AllReady.nil)
  · go_simp
    refine hK _ _ ?_
    clear hK K
    refine wpAny_ready (rs := [6]) (by kernel_rfl) (by simp) ?_
    refine AllReady.cons rfl (fun K hK => ?_) AllReady.nil
    rw [if_pos (by rfl)]
    refine wp_load_mid 56 _ rfl W.heap.size 0 rfl (p.map bv) _ hrd Try.underlying56 rfl hi56 ?_
    simp only [Act.put, List.setIfInBounds_toArray, List.set_cons_zero, List.set_cons_succ]
    refine hK _ _ ?_
    clear hK K
    refine wpAny_take (i := 7) (v := (.agg (Value.int .i64 i :: p.map bv).toArray)) rfl (by kernel_rfl) (by kernel_rfl) (by kernel_rfl) (fun _ _ _ h => h) (Or.inl ⟨by rfl, by intro w; go_simp⟩) ?_
    simp only [Act.put, List.setIfInBounds_toArray, List.set_cons_zero, List.set_cons_succ]
    refine wpAny_ready (rs := [8]) (by kernel_rfl) (by simp) ?_
    refine AllReady.cons rfl (fun K hK => ?_) AllReady.nil
    go_simp
    refine hK _ _ ?_
    clear hK K
    refine wpAny_ready (rs := [9]) (by kernel_rfl) (by simp) ?_
    refine AllReady.cons rfl (fun K hK => ?_) AllReady.nil
    refine step_append_lies _ (by rfl) _ _ 140 (by rfl) (d + 1) 145 i0 (.agg (Value.int .i64 0 :: zero64.map bv).toArray) 65 72 Try.underlying140 HI.out.1 HI.out.2.1 HI.out.2.2.1 HI.out.2.2.2 (by kernel_rfl) (by decide) v D.loose.length (loCells D.loose) (by rfl) HA.out.1 ⟨w1.heap.size, 0, none⟩ 1 1 (Value.int .i64 i :: p.map bv) (by rfl) (by simp [hp]) HA.out.2.1 HA.out.2.2.1 (by decide) (by unfold maxLen; omega) (by omega) HA.out.2.2.2 _ rfl ?_
    intro g2 cap w9 hown9 hgrow9 hloc9 _
    have HZ := Lib.hid (HD.out.appended HX.out hgrow9 (D.loose ++ [(i, p)]) (by rw [List.length_append, loCells_snoc]; exact hown9) HL.out hloc9)
    have c9 : w9.cell? ⟨d, 2, none⟩ = some v := HC2.out w9 hgrow9
    have f9 : w9.frozen? ⟨d, 2, none⟩ = false := HC3.out w9 hgrow9
    clear hown9 hgrow9 hloc9
    simp only [Act.put, List.setIfInBounds_toArray, List.set_cons_zero, List.set_cons_succ]
    refine hK _ _ ?_
    clear hK K
    refine wpAny_take (i := 10) (v := (.pointer (some ⟨d, 0, none⟩))) rfl (by kernel_rfl) (by kernel_rfl) (by kernel_rfl) (fun _ _ _ h => h) (Or.inl ⟨by rfl, by intro w; go_simp⟩) ?_
    simp only [Act.put, List.setIfInBounds_toArray, List.set_cons_zero, List.set_cons_succ]
    refine wpAny_take (i := 11) (v := (.pointer (some ⟨d, 2, none⟩))) rfl (by kernel_rfl) (by kernel_rfl) (by kernel_rfl) (fun _ _ _ h => h) (Or.inl ⟨by rfl, by intro w; go_simp⟩) ?_
    simp only [Act.put, List.setIfInBounds_toArray, List.set_cons_zero, List.set_cons_succ]
    refine wpAny_ready (rs := [12]) (by kernel_rfl) (by simp) ?_
    refine AllReady.cons rfl (fun K hK => ?_) AllReady.nil
    go_simp
    refine hK _ _ ?_
    clear hK K
    refine wpAny_done (by kernel_rfl) ?_ _
    go_wp2_with fail
    go_ret
    exact ⟨_, rfl, HZ.out.1, HF1.out.trans HZ.out.2⟩
  · rw [if_pos (by rfl)]
    refine wp_load_mid 56 _ rfl W.heap.size 0 rfl (p.map bv) _ hrd Try.underlying56 rfl hi56 ?_
    simp only [Act.put, List.setIfInBounds_toArray, List.set_cons_zero, List.set_cons_succ]
    refine hK _ _ ?_
    clear hK K
    refine wpAny_take (i := 7) (v := (.agg (Value.int .i64 i :: p.map bv).toArray)) rfl (by kernel_rfl) (by kernel_rfl) (by kernel_rfl) (fun _ _ _ h => h) (Or.inl ⟨by rfl, by intro w; go_simp⟩) ?_
    simp only [Act.put, List.setIfInBounds_toArray, List.set_cons_zero, List.set_cons_succ]
    refine wpAny_ready (rs := [4, 8]) (by kernel_rfl) (by simp) ?_
    refine AllReady.cons rfl (fun K hK => ?_) (AllReady.cons rfl (fun K hK => ?_) AllReady.nil)
    · go_simp
      refine hK _ _ ?_
      clear hK K
      refine wpAny_ready (rs := [8]) (by kernel_rfl) (by simp) ?_
      refine AllReady.cons rfl (fun K hK => ?_) AllReady.nil
      go_simp
      refine hK _ _ ?_
      clear hK K
      refine wpAny_ready (rs := [9]) (by kernel_rfl) (by simp) ?_
      refine AllReady.cons rfl (fun K hK => ?_) AllReady.nil
      refine step_append_lies _ (by rfl) _ _ 140 (by rfl) (d + 1) 145 i0 (.agg (Value.int .i64 0 :: zero64.map bv).toArray) 65 72 Try.underlying140 HI.out.1 HI.out.2.1 HI.out.2.2.1 HI.out.2.2.2 (by kernel_rfl) (by decide) v D.loose.length (loCells D.loose) (by rfl) HA.out.1 ⟨w1.heap.size, 0, none⟩ 1 1 (Value.int .i64 i :: p.map bv) (by rfl) (by simp [hp]) HA.out.2.1 HA.out.2.2.1 (by decide) (by unfold maxLen; omega) (by omega) HA.out.2.2.2 _ rfl ?_
      intro g2 cap w9 hown9 hgrow9 hloc9 _
      have HZ := Lib.hid (HD.out.appended HX.out hgrow9 (D.loose ++ [(i, p)]) (by rw [List.length_append, loCells_snoc]; exact hown9) HL.out hloc9)
      have c9 : w9.cell? ⟨d, 2, none⟩ = some v := HC2.out w9 hgrow9
      have f9 : w9.frozen? ⟨d, 2, none⟩ = false := HC3.out w9 hgrow9
      clear hown9 hgrow9 hloc9
      simp only [Act.put, List.setIfInBounds_toArray, List.set_cons_zero, List.set_cons_succ]
      refine hK _ _ ?_
      clear hK K
      refine wpAny_take (i := 10) (v := (.pointer (some ⟨d, 0, none⟩))) rfl (by kernel_rfl) (by kernel_rfl) (by kernel_rfl) (fun _ _ _ h => h) (Or.inl ⟨by rfl, by intro w; go_simp⟩) ?_
      simp only [Act.put, List.setIfInBounds_toArray, List.set_cons_zero, List.set_cons_succ]
      refine wpAny_take (i := 11) (v := (.pointer (some ⟨d, 2, none⟩))) rfl (by kernel_rfl) (by kernel_rfl) (by kernel_rfl) (fun _ _ _ h => h) (Or.inl ⟨by rfl, by intro w; go_simp⟩) ?_
      simp only [Act.put, List.setIfInBounds_toArray, List.set_cons_zero, List.set_cons_succ]
      refine wpAny_ready (rs := [12]) (by kernel_rfl) (by simp) ?_
      refine AllReady.cons rfl (fun K hK => ?_) AllReady.nil
      go_simp
      refine hK _ _ ?_
      clear hK K
      refine wpAny_done (by kernel_rfl) ?_ _
      go_wp2_with fail
      go_ret
      exact ⟨_, rfl, HZ.out.1, HF1.out.trans HZ.out.2⟩
    · go_simp
      refine hK _ _ ?_
      clear hK K
      refine wpAny_ready (rs := [4]) (by kernel_rfl) (by simp) ?_
      refine AllReady.cons rfl (fun K hK => ?_) AllReady.nil
      go_simp
      refine hK _ _ ?_
      clear hK K
      refine wpAny_ready (rs := [9]) (by kernel_rfl) (by simp) ?_
      refine AllReady.cons rfl (fun K hK => ?_) AllReady.nil
      refine step_append_lies _ (by rfl) _ _ 140 (by rfl) (d + 1) 145 i0 (.agg (Value.int .i64 0 :: zero64.map bv).toArray) 65 72 Try.underlying140 HI.out.1 HI.out.2.1 HI.out.2.2.1 HI.out.2.2.2 (by kernel_rfl) (by decide) v D.loose.length (loCells D.loose) (by rfl) HA.out.1 ⟨w1.heap.size, 0, none⟩ 1 1 (Value.int .i64 i :: p.map bv) (by rfl) (by simp [hp]) HA.out.2.1 HA.out.2.2.1 (by decide) (by unfold maxLen; omega) (by omega) HA.out.2.2.2 _ rfl ?_
      intro g2 cap w9 hown9 hgrow9 hloc9 _
      have HZ := Lib.hid (HD.out.appended HX.out hgrow9 (D.loose ++ [(i, p)]) (by rw [List.length_append, loCells_snoc]; exact hown9) HL.out hloc9)
      have c9 : w9.cell? ⟨d, 2, none⟩ = some v := HC2.out w9 hgrow9
      have f9 : w9.frozen? ⟨d, 2, none⟩ = false := HC3.out w9 hgrow9
      clear hown9 hgrow9 hloc9
      simp only [Act.put, List.setIfInBounds_toArray, List.set_cons_zero, List.set_cons_succ]
      refine hK _ _ ?_
      clear hK K
      refine wpAny_take (i := 10) (v := (.pointer (some ⟨d, 0, none⟩))) rfl (by kernel_rfl) (by kernel_rfl) (by kernel_rfl) (fun _ _ _ h => h) (Or.inl ⟨by rfl, by intro w; go_simp⟩) ?_
      simp only [Act.put, List.setIfInBounds_toArray, List.set_cons_zero, List.set_cons_succ]
      refine wpAny_take (i := 11) (v := (.pointer (some ⟨d, 2, none⟩))) rfl (by kernel_rfl) (by kernel_rfl) (by kernel_rfl) (fun _ _ _ h => h) (Or.inl ⟨by rfl, by intro w; go_simp⟩) ?_
      simp only [Act.put, List.setIfInBounds_toArray, List.set_cons_zero, List.set_cons_succ]
      refine wpAny_ready (rs := [12]) (by kernel_rfl) (by simp) ?_
      refine AllReady.cons rfl (fun K hK => ?_) AllReady.nil
      go_simp
      refine hK _ _ ?_
      clear hK K
      refine wpAny_done (by kernel_rfl) ?_ _
      go_wp2_with fail
      go_ret
      exact ⟨_, rfl, HZ.out.1, HF1.out.trans HZ.out.2⟩

set_option maxRecDepth 100000 in
set_option maxHeartbeats 4000000 in
theorem dwrite_no {W : World} {d m1 m2 : Nat} {v : Value} {D : Dk} (h : DkAt W d m1 m2 v D) (i : Int) (p : List UInt8) (hm : D.may i ≠ 0) :
    Calls Try.prog 54 #[.pointer (some ⟨d, 0, none⟩), .int .i64 i, .agg (p.map bv).toArray] W fun r w' => r = .returned (.int .i64 (D.may i : Nat)) ∧ DkAt w' d m1 m2 v D ∧ DFr W w' d m1 m2 v v := by
  have M := Lib.hid (fun (X : World) (hX : DkAt X d m1 m2 v D) => may_any hX i)
  have hB : Below W.heap.size W (W.alloc (.cells (p.map bv).toArray 56)) := (Below.refl _ _).alloc (Nat.le_refl _) _
  have H := Lib.hid (h.below hB)
  have HF := Lib.hid (DFr.of_below hB d m1 m2 v)
  clear h hB
  generalize D.may i = e at *
  have hne : (e : Int) ≠ 0 := by omega
  go_enter Try.func54, Try.ntmps54
  go_wp2_with fail
  refine (M.out _ H.out).mono ?_
  rintro r w1 ⟨rfl, rfl⟩
  go_wp2_with fail
  go_ret
  exact ⟨rfl, H.out, HF.out⟩

set_option maxRecDepth 100000 in
set_option maxHeartbeats 4000000 in
theorem dwrite_fused {W : World} {d m1 m2 : Nat} {v : Value} {D : Dk} (h : DkAt W d m1 m2 v D) (i : Int) (p : List UInt8) (hm : D.may i = 0) (hf : D.fuse = 0) :
    Calls Try.prog 54 #[.pointer (some ⟨d, 0, none⟩), .int .i64 i, .agg (p.map bv).toArray] W fun r w' => r = .returned (.int .i64 6) ∧ DkAt w' d m1 m2 v D ∧ DFr W w' d m1 m2 v v := by
  have M := Lib.hid (fun (X : World) (hX : DkAt X d m1 m2 v D) => may_any hX i)
  rw [hm] at M
  have hB : Below W.heap.size W (W.alloc (.cells (p.map bv).toArray 56)) := (Below.refl _ _).alloc (Nat.le_refl _) _
  have H := Lib.hid (h.below hB)
  have HF := Lib.hid (DFr.of_below hB d m1 m2 v)
  clear h hB
  go_enter Try.func54, Try.ntmps54
  go_wp2_with fail
  refine (M.out _ H.out).mono ?_
  rintro r w1 ⟨rfl, rfl⟩
  go_wp2_with fail
  refine (burn_any H.out (by omega)).mono ?_
  rintro r w1 ⟨rfl, hd, hfr⟩
  rw [if_pos hf]
  have hD : D.burn = D := by unfold Dk.burn; rw [if_pos hf]
  rw [hD] at hd
  go_wp2_with fail
  go_ret
  exact ⟨rfl, hd, HF.out.trans hfr⟩
end Go.Proofs.Ytmaaljfcnnlnpaa
