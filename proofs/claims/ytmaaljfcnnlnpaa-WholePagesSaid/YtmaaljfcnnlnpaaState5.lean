/-
  The walk of state.Read.
-/
import Derived.Test.YtmaaljfcnnlnpaaState4
namespace Go.Proofs.Ytmaaljfcnnlnpaa
open Go.RowKit

/-- What a state's text says, cell by cell. -/
def stF (L : List UInt8) (j : Nat) : Int :=
  if j < 17 then sgn (numP (L.drop (4 * j))) else if j < 21 then (((L.drop (68 + (j - 17))).getD 0 0).toNat : Nat) else if j < 37 then sgn (numP (L.drop (72 + 4 * (j - 21)))) else (((L.drop 136).getD 0 0).toNat : Nat)
def fill (L : List UInt8) (m : Nat) : Nat → Int := fun j => if j < m then stF L j else 0
def stErr (L : List UInt8) : Nat := if L.length ≠ 137 then 10 else if stOk (fill L 38) = true then 0 else 4
theorem fill_succ (L : List UInt8) (m : Nat) (v : Int) (hv : v = stF L m) : (fun i => if i = m then v else fill L m i) = fill L (m + 1) := by
  funext i
  unfold fill
  by_cases h : i = m
  · subst h
    rw [if_pos rfl, if_pos (by omega), hv]
  · rw [if_neg h]
    by_cases h2 : i < m
    · rw [if_pos h2, if_pos (by omega)]
    · rw [if_neg h2, if_neg (by omega)]

/-- The worlds of the walk. -/
structure SR (W X : World) (e2 rb ob : Nat) (s : List UInt8) (F : Nat → Int) : Prop where
  s0 : X.cell? ⟨rb, 0, none⟩ = some (.string ⟨s.toArray⟩)
  sf : X.frozen? ⟨rb, 0, none⟩ = false
  oc : ∀ j, j < 38 → X.cell? ⟨ob, j, none⟩ = some (.int .i64 (F j))
  ofr : ∀ j, X.frozen? ⟨ob, j, none⟩ = false
  et : X.there e2 0 38
  n1 : rb ≠ ob
  n2 : rb ≠ e2
  n3 : ob ≠ e2
  g1 : W.heap.size ≤ rb
  g2 : W.heap.size ≤ ob
  g3 : W.heap.size ≤ e2
  below : Below W.heap.size W X

theorem frozen_one (X : World) (a b : Addr) (v : Value) (h : X.frozen? b = false) : (X.setCell a v).frozen? b = false := by
  rw [World.frozen?_setCell]; exact h

section
variable {W X : World} {e2 rb ob : Nat} {s : List UInt8} {F : Nat → Int}
theorem there_one {X : World} {e n : Nat} (h : X.there e 0 n) (a : Addr) (v : Value) (hne : a.block ≠ e) : (X.setCell a v).there e 0 n := fun j hj => by
  obtain ⟨h1, h2⟩ := h j hj
  exact ⟨by rw [World.cell?_setCell_other _ _ _ _ (fun e9 => hne (by rw [e9]))]; exact h1, frozen_one _ _ _ _ h2⟩
theorem below_one {n : Nat} {W X : World} (hb : Below n W X) (a : Addr) (ha : n ≤ a.block) (v : Value) : Below n W (X.setCell a v) := hb.setCell ha v

theorem SR.read (h : SR W X e2 rb ob s F) (s' : List UInt8) : SR W (X.setCell ⟨rb, 0, none⟩ (.string ⟨s'.toArray⟩)) e2 rb ob s' F :=
  ⟨World.cell?_setCell_same' _ _ _ (by rw [h.s0]; rfl), frozen_one _ _ _ _ h.sf, fun j hj => by rw [World.cell?_setCell_other _ _ _ _ (fun e => h.n1 (by injection e))]; exact h.oc j hj, fun j => frozen_one _ _ _ _ (h.ofr j),
    there_one h.et _ _ h.n2, h.n1, h.n2, h.n3, h.g1, h.g2, h.g3, below_one h.below _ h.g1 _⟩
theorem SR.store (h : SR W X e2 rb ob s F) (j : Nat) (hj : j < 38) (v : Int) : SR W (X.setCell ⟨ob, j, none⟩ (.int .i64 v)) e2 rb ob s (fun i => if i = j then v else F i) :=
  ⟨by rw [World.cell?_setCell_other _ _ _ _ (fun e => h.n1 (by injection e with e1; exact e1.symm))]; exact h.s0, frozen_one _ _ _ _ h.sf, fun i hi => by
    by_cases e : i = j
    · subst e
      rw [if_pos rfl]
      exact World.cell?_setCell_same' _ _ _ (by rw [h.oc i hi]; rfl)
    · rw [if_neg e, World.cell?_setCell_other _ _ _ _ (fun e9 => e (by injection e9 with _ e3; exact e3.symm))]
      exact h.oc i hi, fun j => frozen_one _ _ _ _ (h.ofr j), there_one h.et _ _ h.n3, h.n1, h.n2, h.n3, h.g1, h.g2, h.g3, below_one h.below _ h.g2 _⟩
theorem SR.step (h : SR W X e2 rb ob s F) {Y : World} (hb : Below X.heap.size X Y) : SR W Y e2 rb ob s F :=
  have l1 := cell_in h.s0
  have l2 := cell_in (h.oc 0 (by decide))
  have l3 : e2 < X.heap.size := by
    have := (h.et 0 (by decide)).1
    obtain ⟨v, hv⟩ := Option.isSome_iff_exists.1 this
    exact cell_in hv
  ⟨cell_step h.s0 hb, (hb.frozen (p := ⟨rb, 0, none⟩) l1).trans h.sf, fun j hj => cell_step (h.oc j hj) hb, fun j => (hb.frozen (p := ⟨ob, j, none⟩) l2).trans (h.ofr j),
    fun j hj => ⟨by rw [hb.cell (p := ⟨e2, 0 + j, none⟩) l3]; exact (h.et j hj).1, (hb.frozen (p := ⟨e2, 0 + j, none⟩) l3).trans (h.et j hj).2⟩, h.n1, h.n2, h.n3, h.g1, h.g2, h.g3, h.below.trans (hb.mono h.below.size)⟩
end

theorem info169 : (Try.prog.info? 169).map (·.size) = some 38 := by kernel_rfl
theorem run_build169 (w : World) : (Instr.build 169 #[]).run Try.prog w = .ok (.agg (inl 38 fun _ => 0).toArray) w := by kernel_rfl
theorem run_alloc169 (w : World) : (Instr.alloc 169 true (.tuple #[])).run Try.prog w = .ok (.pointer (some ⟨w.heap.size, 0, none⟩)) (w.alloc (.cells (inl 38 fun _ => 0).toArray 169)) := by kernel_rfl

section
variable {ops : Array Oper} {rest : List Oper} {op : Oper} {a : Act} {w : World} {Q : Exit → Act → World → Prop}
theorem wpList_alloc169 (ho : op.op = .alloc 169) (hw : Region.wanted op (yielded ops a.tmps) = true)
    (h : wpList Try.prog ops Q rest (a.put op.dst (.pointer (some ⟨w.heap.size, 0, none⟩))) (w.alloc (.cells (inl 38 fun _ => 0).toArray 169))) : wpList Try.prog ops Q (op :: rest) a w := by
  refine wpList_wanted hw ?_
  unfold Oper.wp execOp
  simp [ho, run_alloc169, Result.andThen]
  exact h
theorem wpList_zero169 (ho : op.op = .build 169 #[]) (hw : Region.wanted op (yielded ops a.tmps) = true)
    (h : wpList Try.prog ops Q rest (a.put op.dst (.agg (inl 38 fun _ => 0).toArray)) w) : wpList Try.prog ops Q (op :: rest) a w := by
  refine wpList_wanted hw ?_
  unfold Oper.wp execOp
  simp [ho, run_build169, Result.andThen]
  exact h
theorem wpList_store169 (hgd : op.guard = none) (x y : Operand) (ho : op.op = .store 169 x y) (e2 : Nat) (F : Nat → Int) (ht : w.there e2 0 38) (hx : a.eval x = .pointer (some ⟨e2, 0, none⟩)) (hy : a.eval y = .agg (inl 38 F).toArray)
    (h : wpList Try.prog ops Q rest (a.put op.dst undef) (w.setCells e2 0 (inl 38 F))) : wpList Try.prog ops Q (op :: rest) a w :=
  wpList_store_mid hgd 169 x y ho e2 0 (inl 38 F).toArray hx hy (by rw [show (inl 38 F).toArray.size = 38 from inl_length 38 F]; exact ht) (by rw [info169, show (inl 38 F).toArray.size = 38 from inl_length 38 F]) (all_oneCell_toArray (inl_one 38 F)) h
end

theorem there_alloc169 (W : World) (F : Nat → Int) : (W.alloc (.cells (inl 38 F).toArray 169)).there W.heap.size 0 38 := fun j hj => by
  refine ⟨?_, World.frozen?_alloc_new _ _ _ _⟩
  rw [Nat.zero_add, World.cell?_alloc_new, Array.getElem?_eq_getElem (by rw [show (inl 38 F).toArray.size = 38 from inl_length 38 F]; exact hj)]
  rfl
theorem load169_set {X : World} {e2 : Nat} (F : Nat → Int) (h : X.there e2 0 38) : (loadVar 169 ⟨e2, 0, none⟩).run Try.prog (X.setCells e2 0 (inl 38 F)) = .ok (.agg (inl 38 F).toArray) (X.setCells e2 0 (inl 38 F)) :=
  run_loadVar_mid _ e2 0 169 (inl 38 F) _ (World.rangeAt_setCells_same _ _ _ _ (by rw [inl_length]; exact h)) Try.underlying169 rfl (by rw [info169, inl_length])

theorem SR.start (W : World) (L : List UInt8) (t : TypeId) :
    SR W (((W.alloc (.cells (inl 38 fun _ => 0).toArray 169)).alloc (.cells #[.string ⟨L.toArray⟩] t)).alloc (.cells (inl 38 fun _ => 0).toArray 169)) W.heap.size (W.heap.size + 1) (W.heap.size + 1 + 1) L (fill L 0) := by
  have hs1 : (W.alloc (.cells (inl 38 fun _ => 0).toArray 169)).heap.size = W.heap.size + 1 := by simp
  have hs2 : ((W.alloc (.cells (inl 38 fun _ => 0).toArray 169)).alloc (.cells #[.string ⟨L.toArray⟩] t)).heap.size = W.heap.size + 1 + 1 := by simp
  have b0 : Below W.heap.size W (W.alloc (.cells (inl 38 fun _ => 0).toArray 169)) := (Below.refl _ _).alloc (Nat.le_refl _) _
  have b1 : Below (W.alloc (.cells (inl 38 fun _ => 0).toArray 169)).heap.size (W.alloc (.cells (inl 38 fun _ => 0).toArray 169)) ((W.alloc (.cells (inl 38 fun _ => 0).toArray 169)).alloc (.cells #[.string ⟨L.toArray⟩] t)) := (Below.refl _ _).alloc (Nat.le_refl _) _
  have t1 := there_alloc169 W (fun _ => 0)
  generalize W.alloc (.cells (inl 38 fun _ => 0).toArray 169) = W1 at *
  have c1 : (W1.alloc (.cells #[.string ⟨L.toArray⟩] t)).cell? ⟨W1.heap.size, 0, none⟩ = some (.string ⟨L.toArray⟩) := by rw [World.cell?_alloc_new]; rfl
  have f1 : (W1.alloc (.cells #[.string ⟨L.toArray⟩] t)).frozen? ⟨W1.heap.size, 0, none⟩ = false := World.frozen?_alloc_new _ _ _ _
  have l1 : W.heap.size < W1.heap.size := by omega
  have t2 : (W1.alloc (.cells #[.string ⟨L.toArray⟩] t)).there W.heap.size 0 38 := fun j hj => ⟨by rw [b1.cell (p := ⟨W.heap.size, 0 + j, none⟩) l1]; exact (t1 j hj).1, (b1.frozen (p := ⟨W.heap.size, 0 + j, none⟩) l1).trans (t1 j hj).2⟩
  generalize W1.alloc (.cells #[.string ⟨L.toArray⟩] t) = W2 at *
  have b2 : Below W2.heap.size W2 (W2.alloc (.cells (inl 38 fun _ => 0).toArray 169)) := (Below.refl _ _).alloc (Nat.le_refl _) _
  rw [hs1] at c1 f1
  refine ⟨cell_step c1 b2, (b2.frozen (p := ⟨W.heap.size + 1, 0, none⟩) (by show W.heap.size + 1 < W2.heap.size; omega)).trans f1, fun j hj => ?_, fun j => ?_, fun j hj => ⟨?_, ?_⟩, by omega, by omega, by omega, by omega, by omega, Nat.le_refl _, (b0.trans (b1.mono (by omega))).trans (b2.mono (by omega))⟩
  · rw [← hs2, World.cell?_alloc_new]
    simpa [fill] using inl_get 38 (fun _ => 0) j hj
  · rw [← hs2]; exact World.frozen?_alloc_new _ _ _ _
  · rw [b2.cell (p := ⟨W.heap.size, 0 + j, none⟩) (by show W.heap.size < W2.heap.size; omega)]; exact (t2 j hj).1
  · exact (b2.frozen (p := ⟨W.heap.size, 0 + j, none⟩) (by show W.heap.size < W2.heap.size; omega)).trans (t2 j hj).2

/-- What state.Read answers. -/
def StAns (W : World) (L : List UInt8) (r : Ending) (w' : World) : Prop := ∃ F, r = .returned (.tuple #[.agg (inl 38 F).toArray, .int .i64 (stErr L : Nat)]) ∧ Below W.heap.size W w'

set_option maxRecDepth 100000 in
set_option maxHeartbeats 8000000 in
theorem sread (L : List UInt8) (hL : L.length ≤ maxLen) (W : World) : Calls Try.prog 102 #[.string ⟨L.toArray⟩] W fun r w' => StAns W L r w' := by
  have hsz : (⟨L.toArray⟩ : ByteArray).size = L.length := rfl
  have HSZ := Lib.hid hsz
  unfold maxLen at hL
  by_cases h137 : L.length = 137
  · have HE := Lib.hid (show stErr L = if stOk (fill L 38) = true then 0 else 4 by unfold stErr; rw [if_neg (by omega)])
    have hsb : (((⟨L.toArray⟩ : ByteArray).size : Int) != 137) = false := by rw [hsz, h137]; rfl
    go_enter Try.func102, Try.ntmps102
    go_upto_region 5 with (refine wpList_alloc169 (by rfl) (by rfl) ?_)
    rw [show (((W.alloc (.cells (inl 38 fun _ => 0).toArray 169)).alloc (.cells #[.string ⟨L.toArray⟩] 178)).heap.size) = W.heap.size + 1 + 1 by simp]
    refine wp_gate (fun X => SR W X W.heap.size (W.heap.size + 1) (W.heap.size + 1 + 1) L (fill L 0)) (SR.start W L 178) ?_
    intro X0 hX
    have HX0 := Lib.hid hX
    have HL := Lib.hid h137
    clear hX hsb hsz h137 hL
    simp only [Act.put, List.setIfInBounds_toArray, List.set_cons_zero, List.set_cons_succ]
    go_wp2_with fail
    go_loopw [6, 16, 17, 18, 19, 20, 21, 22, 23, 24] (fun _ a16 _ _ _ _ _ _ _ _ wr => ∃ i : Nat, i ≤ 16 ∧ a16 = .int .i64 i ∧ SR W wr W.heap.size (W.heap.size + 1) (W.heap.size + 1 + 1) (L.drop (4 * i)) (fill L i)) (fun _ a16 _ _ _ _ _ _ _ _ _ => 16 - (intOf a16).toNat)
    case atStart => exact ⟨0, by omega, rfl, HX0.out⟩
    case round =>
      clear HX0
      obtain ⟨i, hi, rfl, hS⟩ := hrel
      have HS := Lib.hid hS
      clear hS
      by_cases hlt : i < 16
      · go_wp2_with fail
        have R := Lib.hid (rnum HS.out.s0 HS.out.sf (by rw [List.length_drop, HL.out]; omega) (by rw [List.length_drop, HL.out]; omega))
        have HV : Hid (sgn (numP (L.drop (4 * i))) = stF L i) := Lib.hid (by unfold stF; rw [if_pos (by omega)])
        have HD : Hid ((L.drop (4 * i)).drop 4 = L.drop (4 * (i + 1))) := Lib.hid (by rw [List.drop_drop]; rfl)
        refine R.out.mono ?_
        rintro r w1 ⟨rfl, rfl⟩
        have HS := Lib.hid (HS.out.read ((L.drop (4 * i)).drop 4))
        rw [HD.out] at HS ⊢
        rw [HV.out]
        generalize wr.setCell ⟨W.heap.size + 1, 0, none⟩ (.string ⟨(L.drop (4 * (i + 1))).toArray⟩) = w1 at *
        have HZ := Lib.hid (HS.out.store i (by omega) (stF L i))
        rw [fill_succ L i _ rfl] at HZ
        have co := HS.out.oc i (by omega)
        have fo := HS.out.ofr i
        clear R HV HD
        go_wp2_with fail
        exact ⟨⟨i + 1, by omega, by simp, HZ.out⟩, by simp only [intOf]; omega⟩
      · obtain rfl : i = 16 := by omega
        go_wp2_with fail
        have R := Lib.hid (rnum HS.out.s0 HS.out.sf (by rw [List.length_drop, HL.out]; omega) (by rw [List.length_drop, HL.out]; omega))
        have HV : Hid (sgn (numP (L.drop (4 * 16))) = stF L 16) := Lib.hid (by unfold stF; rw [if_pos (by omega)])
        have HD : Hid ((L.drop (4 * 16)).drop 4 = L.drop 68) := Lib.hid (by rw [List.drop_drop])
        refine R.out.mono ?_
        rintro r w1 ⟨rfl, rfl⟩
        have HS := Lib.hid (HS.out.read ((L.drop (4 * 16)).drop 4))
        rw [HD.out] at HS ⊢
        rw [HV.out]
        generalize wr.setCell ⟨W.heap.size + 1, 0, none⟩ (.string ⟨(L.drop 68).toArray⟩) = w1 at *
        have HZ := Lib.hid (HS.out.store 16 (by omega) (stF L 16))
        rw [fill_succ L 16 _ rfl] at HZ
        have co := HS.out.oc 16 (by omega)
        have fo := HS.out.ofr 16
        clear R HV HD
        go_upto_region 11 with fail
        change Code.wp _ _ _ _ (w1.setCell ⟨W.heap.size + 1 + 1, 16, none⟩ (.int .i64 (stF L 16)))
        generalize w1.setCell ⟨W.heap.size + 1 + 1, 16, none⟩ (.int .i64 (stF L 16)) = w2 at *
        clear co fo HS
        go_wp2_with fail
        go_loopw [7, 28, 29, 30, 31, 32, 33, 34, 35, 36] (fun _ a28 _ _ _ _ _ _ _ _ wr => ∃ i : Nat, i ≤ 4 ∧ a28 = .int .i64 i ∧ SR W wr W.heap.size (W.heap.size + 1) (W.heap.size + 1 + 1) (L.drop (68 + i)) (fill L (17 + i))) (fun _ a28 _ _ _ _ _ _ _ _ _ => 4 - (intOf a28).toNat)
        case atStart => exact ⟨0, by omega, rfl, HZ.out⟩
        case round =>
          clear HZ
          obtain ⟨i, hi, rfl, hS⟩ := hrel
          have HS := Lib.hid hS
          clear hS
          by_cases hlt : i < 4
          · go_wp2_with fail
            have R := Lib.hid (rone HS.out.s0 HS.out.sf (by rw [List.length_drop, HL.out]; omega) (by rw [List.length_drop, HL.out]; omega))
            have HV : Hid (((((L.drop (68 + i)).getD 0 0).toNat : Nat) : Int) = stF L (17 + i)) := Lib.hid (by unfold stF; rw [if_neg (by omega), if_pos (by omega), show 17 + i - 17 = i by omega])
            have HD : Hid ((L.drop (68 + i)).drop 1 = L.drop (68 + (i + 1))) := Lib.hid (by rw [List.drop_drop]; rfl)
            refine R.out.mono ?_
            rintro r w1 ⟨rfl, rfl⟩
            have HS := Lib.hid (HS.out.read ((L.drop (68 + i)).drop 1))
            rw [HD.out] at HS ⊢
            rw [HV.out]
            generalize wr.setCell ⟨W.heap.size + 1, 0, none⟩ (.string ⟨(L.drop (68 + (i + 1))).toArray⟩) = w1 at *
            have HZ := Lib.hid (HS.out.store (17 + i) (by omega) (stF L (17 + i)))
            rw [fill_succ L (17 + i) _ rfl] at HZ
            have co := HS.out.oc (17 + i) (by omega)
            have fo := HS.out.ofr (17 + i)
            clear R HV HD
            go_wp2_with fail
            exact ⟨⟨i + 1, by omega, by simp, HZ.out⟩, by simp only [intOf]; omega⟩
          · obtain rfl : i = 4 := by omega
            rw [show (((4 : Nat) : Int)) = 4 from rfl]
            go_wp2_with fail
            go_loopw [8, 37, 38, 39, 40, 41, 42, 43, 44, 45] (fun _ a37 _ _ _ _ _ _ _ _ wr => ∃ i : Nat, i ≤ 16 ∧ a37 = .int .i64 i ∧ SR W wr W.heap.size (W.heap.size + 1) (W.heap.size + 1 + 1) (L.drop (72 + 4 * i)) (fill L (21 + i))) (fun _ a37 _ _ _ _ _ _ _ _ _ => 16 - (intOf a37).toNat)
            case atStart => exact ⟨0, by omega, rfl, HS.out⟩
            case round =>
              clear HS
              obtain ⟨i, hi, rfl, hS⟩ := hrel
              have HS := Lib.hid hS
              clear hS
              by_cases hlt : i < 16
              · go_wp2_with fail
                have R := Lib.hid (rnum HS.out.s0 HS.out.sf (by rw [List.length_drop, HL.out]; omega) (by rw [List.length_drop, HL.out]; omega))
                have HV : Hid (sgn (numP (L.drop (72 + 4 * i))) = stF L (21 + i)) := Lib.hid (by unfold stF; rw [if_neg (by omega), if_neg (by omega), if_pos (by omega), show 21 + i - 21 = i by omega])
                have HD : Hid ((L.drop (72 + 4 * i)).drop 4 = L.drop (72 + 4 * (i + 1))) := Lib.hid (by rw [List.drop_drop]; rfl)
                refine R.out.mono ?_
                rintro r w1 ⟨rfl, rfl⟩
                have HS := Lib.hid (HS.out.read ((L.drop (72 + 4 * i)).drop 4))
                rw [HD.out] at HS ⊢
                rw [HV.out]
                generalize wr.setCell ⟨W.heap.size + 1, 0, none⟩ (.string ⟨(L.drop (72 + 4 * (i + 1))).toArray⟩) = w1 at *
                have HZ := Lib.hid (HS.out.store (21 + i) (by omega) (stF L (21 + i)))
                rw [fill_succ L (21 + i) _ rfl] at HZ
                have co := HS.out.oc (21 + i) (by omega)
                have fo := HS.out.ofr (21 + i)
                clear R HV HD
                go_wp2_with fail
                exact ⟨⟨i + 1, by omega, by simp, HZ.out⟩, by simp only [intOf]; omega⟩
              · obtain rfl : i = 16 := by omega
                go_wp2_with fail
                have R := Lib.hid (rone HS.out.s0 HS.out.sf (by rw [List.length_drop, HL.out]; omega) (by rw [List.length_drop, HL.out]; omega))
                have HV : Hid (((((L.drop (72 + 4 * 16)).getD 0 0).toNat : Nat) : Int) = stF L 37) := Lib.hid (by unfold stF; rw [if_neg (by omega), if_neg (by omega), if_neg (by omega)])
                refine R.out.mono ?_
                rintro r w1 ⟨rfl, rfl⟩
                have HS := Lib.hid (HS.out.read ((L.drop (72 + 4 * 16)).drop 1))
                rw [HV.out]
                generalize (L.drop (72 + 4 * 16)).drop 1 = s at *
                generalize wr.setCell ⟨W.heap.size + 1, 0, none⟩ (.string ⟨s.toArray⟩) = w1 at *
                have HZ := Lib.hid (HS.out.store 37 (by omega) (stF L 37))
                rw [fill_succ L 37 _ rfl] at HZ
                have co := HS.out.oc 37 (by omega)
                have fo := HS.out.ofr 37
                clear R HV
                go_upto_region 22 with fail
                change Code.wp _ _ _ _ (w1.setCell ⟨W.heap.size + 1 + 1, 37, none⟩ (.int .i64 (stF L 37)))
                generalize w1.setCell ⟨W.heap.size + 1 + 1, 37, none⟩ (.int .i64 (stF L 37)) = w2 at *
                clear co fo HS
                have HR := Lib.hid (inl_range (W := w2) (g := W.heap.size + 1 + 1) (o := 0) (n := 38) (xs := fill L 38) (fun i hi => by rw [Nat.zero_add]; exact HZ.out.oc i hi))
                have SRT := Lib.hid (sright (fill L 38) w2)
                generalize fill L 38 = F at *
                go_wp2_with (refine wpList_load_mid (by rfl) 169 (.tmp 5) (by rfl) (W.heap.size + 1 + 1) 0 (by rfl) (inl 38 F) _ ?_ Try.underlying169 rfl (by rw [info169, inl_length]) ?_; exact HR.out)
                refine SRT.out.mono ?_
                rintro r w3 ⟨rfl, hb⟩
                have HZ := Lib.hid (HZ.out.step hb)
                have HR := Lib.hid (inl_range (W := w3) (g := W.heap.size + 1 + 1) (o := 0) (n := 38) (xs := F) (fun i hi => by rw [Nat.zero_add]; exact HZ.out.oc i hi))
                clear hb SRT
                rcases Bool.eq_false_or_eq_true (stOk F) with hk | hk
                · have HE := Lib.hid (show stErr L = 0 by rw [HE.out, if_pos hk])
                  rw [hk]
                  clear hk
                  go_wp2_with (first
                    | (refine wpList_load_mid (by rfl) 169 (.tmp 5) (by rfl) (W.heap.size + 1 + 1) 0 (by rfl) (inl 38 F) _ ?_ Try.underlying169 rfl (by rw [info169, inl_length]) ?_; exact HR.out)
                    | (refine wpList_store169 (by rfl) (.tmp 2) (.tmp 53) (by rfl) W.heap.size F ?_ ?_ ?_ ?_; exact HZ.out.et; rfl; rfl))
                  exact bodyPost_ret (results_cell2 (p := 2) (u := 3) (ty := 169) rfl _ _ ⟨W.heap.size, 0, none⟩ _ _ rfl (load169_set F HZ.out.et) rfl) rfl ⟨F, by rw [HE.out]; rfl, below_setCells (Nat.le_refl _) _ _ _ HZ.out.below⟩
                · have HE := Lib.hid (show stErr L = 4 by rw [HE.out, if_neg (by rw [hk]; decide)])
                  rw [hk]
                  clear hk
                  go_wp2_with (first
                    | (refine wpList_zero169 (by rfl) (by rfl) ?_)
                    | (refine wpList_store169 (by rfl) (.tmp 2) (.tmp 52) (by rfl) W.heap.size (fun _ => 0) ?_ ?_ ?_ ?_; exact HZ.out.et; rfl; rfl))
                  exact bodyPost_ret (results_cell2 (p := 2) (u := 3) (ty := 169) rfl _ _ ⟨W.heap.size, 0, none⟩ _ _ rfl (load169_set (fun _ => 0) HZ.out.et) rfl) rfl ⟨fun _ => 0, by rw [HE.out]; rfl, below_setCells (Nat.le_refl _) _ _ _ HZ.out.below⟩
  · have HE := Lib.hid (show stErr L = 10 from if_pos h137)
    have hsb : (((⟨L.toArray⟩ : ByteArray).size : Int) != 137) = true := by rw [hsz, bne_iff_ne]; omega
    have HT := Lib.hid (there_alloc169 W (fun _ => 0))
    have HB := Lib.hid (show Below W.heap.size W (W.alloc (.cells (inl 38 fun _ => 0).toArray 169)) from (Below.refl _ _).alloc (Nat.le_refl _) _)
    go_enter Try.func102, Try.ntmps102
    go_wp2_with (first
      | (refine wpList_alloc169 (by rfl) (by rfl) ?_)
      | (refine wpList_zero169 (by rfl) (by rfl) ?_)
      | (refine wpList_store169 (by rfl) (.tmp 2) (.tmp 12) (by rfl) W.heap.size (fun _ => 0) ?_ ?_ ?_ ?_; exact HT.out; rfl; rfl))
    exact bodyPost_ret (results_cell2 (p := 2) (u := 3) (ty := 169) rfl _ _ ⟨W.heap.size, 0, none⟩ _ _ rfl (load169_set (fun _ => 0) HT.out) rfl) rfl ⟨fun _ => 0, by rw [HE.out]; rfl, below_setCells (Nat.le_refl _) _ _ _ HB.out⟩
end Go.Proofs.Ytmaaljfcnnlnpaa
