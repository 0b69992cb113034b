/-
  The walk of the law DiskSure.
-/
import Derived.Test.YtmaaljfcnnlnpaaDiskLaw2
namespace Go.Proofs.Ytmaaljfcnnlnpaa
open Go.RowKit

theorem flat_get : ∀ (l : List (List UInt8)) (_ : ∀ x ∈ l, x.length = 64) (k j : Nat) (hk : k < l.length), j < 64 → (l.flatMap fun x => x.map bv)[k * 64 + j]? = (l[k].map bv)[j]?
  | [], _, k, j, hk, _ => by simp at hk
  | x :: l, h, 0, j, _, hj => by
    show (x.map bv ++ l.flatMap fun x => x.map bv)[0 * 64 + j]? = _
    have := h x (.head _)
    rw [Nat.zero_mul, Nat.zero_add, List.getElem?_append_left (by simp; omega)]
    rfl
  | x :: l, h, k + 1, j, hk, hj => by
    show (x.map bv ++ l.flatMap fun x => x.map bv)[(k + 1) * 64 + j]? = _
    have hx := h x (.head _)
    have hl : (x.map bv).length = 64 := by simp; omega
    rw [List.getElem?_append_right (by omega), hl, show (k + 1) * 64 + j - 64 = k * 64 + j by omega]
    exact flat_get l (fun y hy => h y (.tail _ hy)) k j (by simpa using hk) hj

/-- Eight pages' cells. -/
def arrC (f : Nat → List UInt8) : List Value := ((List.range 8).map f).flatMap fun x => x.map bv

theorem arrC_get (f : Nat → List UInt8) (hf : ∀ i, (f i).length = 64) (i j : Nat) (hi : i < 8) (hj : j < 64) : (arrC f)[i * 64 + j]? = ((f i).map bv)[j]? := by
  have := flat_get ((List.range 8).map f) (fun x hx => by obtain ⟨i, _, rfl⟩ := List.mem_map.1 hx; exact hf i) i j (by simpa using hi) hj
  rw [arrC, this]
  simp

theorem arrC_length (f : Nat → List UInt8) (hf : ∀ i, (f i).length = 64) : (arrC f).length = 512 := by
  simp [arrC, List.range_succ, hf]

theorem arrC_one (f : Nat → List UInt8) : ((arrC f).toArray).all (·.oneCell') = true := by
  refine all_oneCell_toArray (fun v hv => ?_)
  obtain ⟨x, _, hv⟩ := List.mem_flatMap.1 hv
  obtain ⟨b, _, rfl⟩ := List.mem_map.1 hv
  rfl

theorem Arr.whole {W : World} {g : Nat} {f : Nat → List UInt8} (h : Arr W g f) : W.rangeAt g 0 (arrC f) := fun j v hv => by
  have hj : j < 512 := by
    have := (List.getElem?_eq_some_iff.1 hv).1
    rwa [arrC_length f h.len] at this
  have e := arrC_get f h.len (j / 64) (j % 64) (by omega) (by omega)
  rw [show j / 64 * 64 + j % 64 = j by omega, hv] at e
  have := h.at_ (j / 64) (by omega) (j % 64) v e.symm
  rw [show j / 64 * 64 + j % 64 = 0 + j by omega] at this
  exact this

theorem Arr.there512 {W : World} {g : Nat} {f : Nat → List UInt8} (h : Arr W g f) : W.there g 0 512 := fun j hj => by
  have := h.there (j / 64) (by omega) (j % 64) (by omega)
  rw [show j / 64 * 64 + j % 64 = 0 + j by omega] at this
  exact this

theorem Arr.copied {W : World} {g : Nat} {f f' : Nat → List UInt8} (h : Arr W g f) (hl : ∀ i, (f' i).length = 64) : Arr (W.setCells g 0 (arrC f')) g f' := by
  have hr := World.rangeAt_setCells_same W g 0 (arrC f') (by rw [arrC_length f' hl]; exact h.there512)
  refine ⟨fun i hi j v hv => ?_, hl, fun j => by rw [World.frozen?_setCells]; exact h.fz j⟩
  have hj : j < 64 := by
    have := (List.getElem?_eq_some_iff.1 hv).1
    rwa [List.length_map, hl] at this
  have := hr (i * 64 + j) v ((arrC_get f' hl i j hi hj).trans hv)
  rwa [Nat.zero_add] at this

theorem info84 : (Try.prog.info? 84).map (·.size) = some 512 := by kernel_rfl

section
variable {ops : Array Oper} {rest : List Oper} {op : Oper} {a : Act} {w : World} {Q : Exit → Act → World → Prop}
theorem wpList_load84 (x : Operand) (ho : op.op = .load 84 x) (hw : Region.wanted op (yielded ops a.tmps) = true) (g : Nat) (hx : a.eval x = .pointer (some ⟨g, 0, none⟩)) (f : Nat → List UInt8) (hb : Arr w g f) (V : Value) (hV : V = .agg (arrC f).toArray)
    (h : wpList Try.prog ops Q rest (a.put op.dst V) w) : wpList Try.prog ops Q (op :: rest) a w := by
  subst hV
  exact wpList_wanted hw (wp_load_mid 84 x ho g 0 hx (arrC f) _ hb.whole Try.underlying84 rfl (by rw [info84, arrC_length f hb.len]) h)
theorem wpList_store84 (hgd : op.guard = none) (x y : Operand) (ho : op.op = .store 84 x y) (g : Nat) (hx : a.eval x = .pointer (some ⟨g, 0, none⟩)) (f f' : Nat → List UInt8) (V : Value) (hV : V = .agg (arrC f').toArray) (hy : a.eval y = V) (hl : ∀ i, (f' i).length = 64) (hb : Arr w g f)
    (h : wpList Try.prog ops Q rest (a.put op.dst undef) (w.setCells g 0 (arrC f'))) : wpList Try.prog ops Q (op :: rest) a w :=
  wpList_store_mid hgd 84 x y ho g 0 (arrC f').toArray hx (hy.trans hV) (by rw [List.size_toArray, arrC_length f' hl]; exact hb.there512) (by rw [info84, List.size_toArray, arrC_length f' hl]) (arrC_one f') h
end

theorem stl_arr (k : Nat → Bool) (L : List Wr) (S : Int → List UInt8) (c : Nat) (p : List UInt8) (hk : k L.length = true) : (fun i : Nat => if i = c then p else stl k L S i) = fun i : Nat => stl k (L ++ [((c : Int), p)]) S i := by
  funext i
  rw [stl_snoc, if_pos hk]
  unfold put
  by_cases h : i = c
  · rw [if_pos h, if_pos (by show (i : Int) = (c : Int); omega)]
  · rw [if_neg h, if_neg (by show ¬ (i : Int) = (c : Int); omega)]

theorem stl_skip (k : Nat → Bool) (L : List Wr) (x : Wr) (S : Int → List UInt8) (hk : k L.length = false) : stl k (L ++ [x]) S = stl k L S := by
  rw [stl_snoc, hk]
  rfl

/-- The worlds of the walk: the disk, and two rows of eight pages. -/
structure DY (w W : World) (d m1 m2 : Nat) (S : Int → List UInt8) (L : List Wr) (g1 g2 : Nat) (f1 f2 : Nat → List UInt8) : Prop where
  dx : DX w W d m1 m2 S L [g2, g1]
  a1 : Arr W g1 f1
  a2 : Arr W g2 f2
  ne : g1 ≠ g2

section
variable {w W W' : World} {d m1 m2 g1 g2 : Nat} {S : Int → List UInt8} {L : List Wr} {f1 f2 : Nat → List UInt8}
theorem DY.turn {S' : Int → List UInt8} {L' : List Wr} (h : DY w W d m1 m2 S L g1 g2 f1 f2) (hd : DX w W' d m1 m2 S' L' [g2, g1]) (hs : Stays W W' [g2, g1]) : DY w W' d m1 m2 S' L' g1 g2 f1 f2 :=
  ⟨hd, h.a1.stays hs (.tail _ (.head _)), h.a2.stays hs (.head _), h.ne⟩
theorem DY.step (h : DY w W d m1 m2 S L g1 g2 f1 f2) (hb : Below W.heap.size W W') : DY w W' d m1 m2 S L g1 g2 f1 f2 := h.turn (h.dx.step hb) (fun b hb2 => hb.block b (h.dx.lt hb2))
theorem DY.set1 (h : DY w W d m1 m2 S L g1 g2 f1 f2) (c : Nat) (hc : c < 8) (p : List UInt8) (hp : p.length = 64) : DY w (W.setCells g1 (c * 64) (p.map bv)) d m1 m2 S L g1 g2 (fun j => if j = c then p else f1 j) f2 :=
  ⟨h.dx.setCells (.tail _ (.head _)) _ _, h.a1.set c hc p hp, h.a2.of_block (setCells_block _ _ _ _ _ (Ne.symm h.ne)), h.ne⟩
theorem DY.set2 (h : DY w W d m1 m2 S L g1 g2 f1 f2) (c : Nat) (hc : c < 8) (p : List UInt8) (hp : p.length = 64) : DY w (W.setCells g2 (c * 64) (p.map bv)) d m1 m2 S L g1 g2 f1 (fun j => if j = c then p else f2 j) :=
  ⟨h.dx.setCells (.head _) _ _, h.a1.of_block (setCells_block _ _ _ _ _ h.ne), h.a2.set c hc p hp, h.ne⟩
theorem DY.copy (h : DY w W d m1 m2 S L g1 g2 f1 f2) : DY w (W.setCells g2 0 (arrC f1)) d m1 m2 S L g1 g2 f1 f1 :=
  ⟨h.dx.setCells (.head _) _ _, h.a1.of_block (setCells_block _ _ _ _ _ h.ne), h.a2.copied h.a1.len, h.ne⟩
end

/-- A boolean, in any world that stands behind the call's. -/
theorem keep_in {w : World} {v : Value} {n : Nat} {ks : Nat → Bool} (h : KeepAt w v n ks) (k : Nat) (hk : k < n) : ∃ b o cap, v = .slice (some ⟨b, o, none⟩) n cap ∧ ∀ W, Below w.heap.size w W → W.cell? ⟨b, o + k, none⟩ = some (.bool (ks k)) := by
  obtain ⟨a, cap, rfl, h0 | ⟨b, o, rfl, hc⟩⟩ := h
  · omega
  · exact ⟨b, o, cap, rfl, fun W hW => cell_below (hc k hk) hW⟩

set_option maxRecDepth 100000 in
set_option maxHeartbeats 8000000 in
theorem diskSure_walk (v0 v1 v2 : Value) (w : World) (h0 : AcsArg w v0) (h1 : AcsArg w v1) (h2 : KeepArg w v2) :
    Calls Try.prog 21 #[v0, v1, v2] w fun e w' => e = .returned (.bool true) ∧ Below w.heap.size w w' := by
  obtain ⟨n, l, ha⟩ := h0
  obtain ⟨n2, l2, ha2⟩ := h1
  obtain ⟨n3, k3, hk3, hn3⟩ := h2
  have A := Lib.hid (fun W => awake16 W)
  have F := Lib.hid (fun W (hb : Below w.heap.size w W) => few16 (ha.below hb))
  have F2 := Lib.hid (fun W (hb : Below w.heap.size w W) => few16 (ha2.below hb))
  have N := Lib.hid (fun W (hb : Below w.heap.size w W) => dx_new hb)
  have HA := Lib.hid ha
  have HA2 := Lib.hid ha2
  have HK := Lib.hid hk3
  obtain ⟨a0, cap0, rfl, hn, -⟩ := ha
  obtain ⟨a1, cap1, rfl, hn2, -⟩ := ha2
  obtain ⟨a2, cap2, rfl, -⟩ := hk3
  unfold maxLen at hn hn2 hn3
  go_enter Try.func21, Try.ntmps21
  go_wp2_with fail
  refine (A.out _).mono ?_
  rintro e w1 ⟨rfl, hb1⟩
  go_wp2_with fail
  refine (F.out _ hb1).mono ?_
  rintro e w2 ⟨⟨b, rfl, hb60⟩, rfl⟩
  have HB := Lib.hid hb1
  clear hb1
  have AG := Lib.hid (show ∀ K : Ending → World → Prop, (∀ w', Below w.heap.size w w' → K (.returned (.bool true)) w') → Calls Try.prog 51 #[] w1 K from fun K hK => (A.out _).mono (by rintro e w3 ⟨rfl, hb⟩; exact hK w3 (HB.out.trans (hb.mono HB.out.size))))
  rcases Bool.eq_false_or_eq_true b with rfl | rfl
  · have hn60 := hb60 rfl
    clear hb60 hn
    go_wp2_with fail
    refine (F2.out _ HB.out).mono ?_
    rintro e w2 ⟨⟨b, rfl, hb60⟩, rfl⟩
    rcases Bool.eq_false_or_eq_true b with rfl | rfl
    · have hn260 := hb60 rfl
      clear hb60 hn2
      by_cases hg1 : 200 < n3
      · go_wp2_with fail
        refine AG.out _ (fun w3 hb => ?_)
        go_wp2_with fail
        go_ret
        exact ⟨rfl, hb⟩
      clear AG
      go_wp2_with fail
      refine (N.out _ HB.out).mono ?_
      rintro e w3 ⟨d, m1, m2, rfl, hS⟩
      have HS := Lib.hid hS
      clear hS HB N
      go_upto_region 8 with (refine wpList_arr84 (by rfl) (by rfl) ?_; first
        | (have H1c := H1; intro w5 harr hb5 hlt5; have HY := Lib.hid (show DY w w5 d m1 m2 (fun _ => zero64) [] w3.heap.size w4.heap.size (fun _ => zero64) (fun _ => zero64) from ⟨H1.out.1.made hb5 hlt5, H1.out.2.of_block (hb5.block _ (H1.out.1.lt (.head _))), harr, Nat.ne_of_lt (H1.out.1.lt (.head _))⟩); clear harr hb5 hlt5 H1c)
        | (intro w4 harr hb4 hlt4; have H1 := Lib.hid (And.intro (HS.out.made hb4 hlt4) harr); clear harr hb4 hlt4))
      clear H1 HS
      generalize w3.heap.size = g1 at *
      generalize w4.heap.size = g2 at *
      go_loopw [6, 11, 40, 41, 42, 43, 44, 45, 46, 47, 48, 49, 50, 51, 52, 53, 54, 55, 56, 57, 58, 59, 60, 61, 62, 63, 64, 65, 66, 67, 68, 69, 70, 71] (fun _ a11 _ _ _ _ _ _ _ _ _ _ _ _ _ _ _ _ _ _ _ _ _ _ _ _ _ _ _ _ _ _ _ _ wr => ∃ k : Nat, k ≤ n ∧ a11 = .int .i64 k ∧ DY w wr d m1 m2 (fun _ => zero64) (wrs l k) g1 g2 (fun i => stl (fun _ => true) (wrs l k) (fun _ => zero64) i) (fun _ => zero64)) (fun _ a11 _ _ _ _ _ _ _ _ _ _ _ _ _ _ _ _ _ _ _ _ _ _ _ _ _ _ _ _ _ _ _ _ _ => n - (intOf a11).toNat)
      case atStart => exact ⟨0, Nat.zero_le _, rfl, HY.out⟩
      case round =>
        clear HY
        obtain ⟨k, hk, rfl, hW⟩ := hrel
        have HW := Lib.hid hW
        clear hW
        by_cases hlt : k < n
        · obtain ⟨b, o, cap0', hv, hc1, hcp, hpl⟩ := act_in HA.out k hlt
          obtain ⟨rfl, rfl⟩ : a0 = some ⟨b, o, none⟩ ∧ cap0 = cap0' := by injection hv with e1 _ e3; exact ⟨e1, e3⟩
          have HC1 := Lib.hid hc1
          have HCP := Lib.hid hcp
          have HPL := Lib.hid hpl
          have HN := Lib.hid (wrs_succ l k)
          have HM := Lib.hid (m8_range (l k).at_)
          clear hc1 hcp hpl hv
          generalize (l k).at_ = x at *
          generalize (l k).p = p at *
          obtain ⟨c, hc⟩ : ∃ c : Nat, m8 x = c := ⟨(m8 x).toNat, by have := HM.out; omega⟩
          have hc8 : c < 8 := by have := HM.out; omega
          have hm8 : bits BinOp.and .i64 x 7 = (c : Int) := hc
          rw [hc] at HN
          have HB0 := Lib.hid HW.out.dx.below
          have hx : ∀ y : WS (fun X => X = wr.drew), y.w.cell? ⟨b, o + k * 67 + 1, none⟩ = some (.int .i64 x) := fun y => by rw [y.ok]; exact HC1.out _ HB0.out.drew
          have hl56 : ∀ y : WS (fun X => X = wr.drew), (Instr.loadAt 56 (.pointer (some ⟨b, o + k * 67 + 2, none⟩))).run Try.prog y.w = .ok (.agg (p.map bv).toArray) y.w := fun y => by rw [y.ok]; exact HCP.out _ HB0.out.drew
          haveI : Nonempty (WS (fun X => X = wr.drew)) := ⟨⟨wr.drew, rfl⟩⟩
          go_upto_region 10 with fail
          refine wp_region_ws_tail (fun X => X = wr.drew) 12 (by kernel_rfl) (by kernel_rfl) rfl ?_
          simp only [List.take_succ_cons, List.take_zero, List.drop_succ_cons, List.drop_zero]
          repeat (first
            | (go_big_quiet_step (fail))
            | (go_big_quiet_want; refine quiet_load 56 _ (by rfl) _ (by rfl) _ hl56 ?_; go_simp; go_big_quiet_on))
          refine wpQuiet_nil ?_
          intro w8 hw8
          obtain rfl : w8 = wr.drew := hw8
          clear hx hl56 this
          have HW := Lib.hid (HW.out.step (Below.refl _ _).drew)
          clear HB0
          go_wp2_with fail
          refine (dx_write HW.out.dx c (by omega) p HPL.out (by rw [wrs_length]; omega)).mono ?_
          rintro e w9 ⟨rfl, hS, hst⟩
          rw [← HN.out] at hS
          have HW := Lib.hid (HW.out.turn hS hst)
          clear hS hst
          have HB0 := Lib.hid HW.out.dx.below
          have hx : ∀ y : WS (fun X => X = w9.drew), y.w.cell? ⟨b, o + k * 67 + 1, none⟩ = some (.int .i64 x) := fun y => by rw [y.ok]; exact HC1.out _ HB0.out.drew
          have hl56 : ∀ y : WS (fun X => X = w9.drew), (Instr.loadAt 56 (.pointer (some ⟨b, o + k * 67 + 2, none⟩))).run Try.prog y.w = .ok (.agg (p.map bv).toArray) y.w := fun y => by rw [y.ok]; exact HCP.out _ HB0.out.drew
          haveI : Nonempty (WS (fun X => X = w9.drew)) := ⟨⟨w9.drew, rfl⟩⟩
          go_upto_region 12 with fail
          refine wp_region_ws_tail (fun X => X = w9.drew) 12 (by kernel_rfl) (by kernel_rfl) rfl ?_
          simp only [List.take_succ_cons, List.take_zero, List.drop_succ_cons, List.drop_zero]
          repeat (first
            | (go_big_quiet_step (fail))
            | (go_big_quiet_want; refine quiet_load 56 _ (by rfl) _ (by rfl) _ hl56 ?_; go_simp; go_big_quiet_on))
          refine wpQuiet_nil ?_
          intro w8 hw8
          obtain rfl : w8 = w9.drew := hw8
          clear hx hl56 this
          have HW := Lib.hid (HW.out.step (Below.refl _ _).drew)
          have HT := Lib.hid (HW.out.a1.there c hc8)
          have HW := Lib.hid (HW.out.set1 c hc8 p HPL.out)
          rw [stl_arr _ _ _ _ _ rfl, ← HN.out] at HW
          clear HB0
          go_wp2_with (refine wpList_store56k (by rfl) _ _ (by rfl) g1 (c * 64) (by rfl) p (by rfl) HPL.out HT.out ?_)
          exact ⟨⟨k + 1, by omega, by simp, HW.out⟩, by simp only [intOf]; omega⟩
        · have hke : k = n := by omega
          subst hke
          have R := Lib.hid (dx_sync HW.out.dx (by rw [wrs_length]; omega))
          obtain ⟨S1, hS1⟩ : ∃ S1, stl (fun _ => true) (wrs l k) (fun _ => zero64) = S1 := ⟨_, rfl⟩
          rw [hS1] at R HW
          clear hS1
          go_wp2_with fail
          refine R.out.mono ?_
          rintro e w5 ⟨rfl, hS, hst⟩
          have HW := Lib.hid (HW.out.turn hS hst)
          have R := Lib.hid (dx_loose HW.out.dx)
          clear hS hst
          go_wp2_with fail
          refine R.out.mono ?_
          rintro e w6 ⟨rfl, rfl⟩
          clear R
          obtain ⟨V, hV⟩ : ∃ V, V = Value.agg (arrC (fun i => S1 i)).toArray := ⟨_, rfl⟩
          have HV := Lib.hid hV
          clear hV
          go_upto_region 16 with (first
            | (refine wpList_load84 _ (by rfl) (by rfl) g1 (by rfl) _ HW.out.a1 V HV.out ?_)
            | (refine wpList_store84 (by rfl) _ _ (by rfl) g2 (by rfl) _ _ V HV.out (by rfl) HW.out.a1.len HW.out.a2 ?_))
          have HX := Lib.hid HW.out.copy
          generalize w5.setCells g2 0 (arrC fun i => S1 i) = w7 at *
          have HX := Lib.hid (And.intro (HX.out.dx.less (l' := [g2]) (fun b hb => by rw [List.mem_singleton.1 hb]; exact .head _)) HX.out.a2)
          have HSL := Lib.hid HX.out.1.len
          clear HW
          go_wp2_with fail
          go_loopw [6, 12, 81, 82, 83, 84, 85, 86, 87, 88, 89, 90, 91, 92, 93, 94, 95, 96, 97, 98, 99, 100, 101, 102, 103, 104, 105, 106, 107, 108, 109, 110, 111, 112, 113, 114, 115, 116, 117, 118, 119, 120, 121, 122] (fun _ a12 _ _ _ _ _ _ _ _ _ _ _ _ _ _ _ _ _ _ _ _ _ _ _ _ _ _ _ _ _ _ _ _ _ _ _ _ _ _ _ _ _ _ wr => ∃ j : Nat, j ≤ n2 ∧ a12 = .int .i64 j ∧ DX w wr d m1 m2 S1 (wrs l2 j) [g2] ∧ Arr wr g2 (fun i => stl (kept n3 k3) (wrs l2 j) S1 i)) (fun _ a12 _ _ _ _ _ _ _ _ _ _ _ _ _ _ _ _ _ _ _ _ _ _ _ _ _ _ _ _ _ _ _ _ _ _ _ _ _ _ _ _ _ _ _ => n2 - (intOf a12).toNat)
          case atStart => exact ⟨0, Nat.zero_le _, rfl, HX.out.1, HX.out.2⟩
          case round =>
            clear HX
            obtain ⟨j, hj, rfl, hS, hR⟩ := hrel
            have HS := Lib.hid hS
            have HR := Lib.hid hR
            clear hS hR
            by_cases hlt : j < n2
            · obtain ⟨b, o, cap1', hv, hc1, hcp, hpl⟩ := act_in HA2.out j hlt
              obtain ⟨rfl, rfl⟩ : a1 = some ⟨b, o, none⟩ ∧ cap1 = cap1' := by injection hv with e1 _ e3; exact ⟨e1, e3⟩
              have HC1 := Lib.hid hc1
              have HCP := Lib.hid hcp
              have HPL := Lib.hid hpl
              have HN := Lib.hid (wrs_succ l2 j)
              have HM := Lib.hid (m8_range (l2 j).at_)
              clear hc1 hcp hpl hv
              generalize (l2 j).at_ = x at *
              generalize (l2 j).p = p at *
              obtain ⟨c, hc⟩ : ∃ c : Nat, m8 x = c := ⟨(m8 x).toNat, by have := HM.out; omega⟩
              have hc8 : c < 8 := by have := HM.out; omega
              have hm8 : bits BinOp.and .i64 x 7 = (c : Int) := hc
              rw [hc] at HN
              have HB0 := Lib.hid HS.out.below
              have hx : ∀ y : WS (fun X => X = wr.drew), y.w.cell? ⟨b, o + j * 67 + 1, none⟩ = some (.int .i64 x) := fun y => by rw [y.ok]; exact HC1.out _ HB0.out.drew
              have hl56 : ∀ y : WS (fun X => X = wr.drew), (Instr.loadAt 56 (.pointer (some ⟨b, o + j * 67 + 2, none⟩))).run Try.prog y.w = .ok (.agg (p.map bv).toArray) y.w := fun y => by rw [y.ok]; exact HCP.out _ HB0.out.drew
              haveI : Nonempty (WS (fun X => X = wr.drew)) := ⟨⟨wr.drew, rfl⟩⟩
              go_upto_region 19 with fail
              refine wp_region_ws_tail (fun X => X = wr.drew) 12 (by kernel_rfl) (by kernel_rfl) rfl ?_
              simp only [List.take_succ_cons, List.take_zero, List.drop_succ_cons, List.drop_zero]
              repeat (first
                | (go_big_quiet_step (fail))
                | (go_big_quiet_want; refine quiet_load 56 _ (by rfl) _ (by rfl) _ hl56 ?_; go_simp; go_big_quiet_on))
              refine wpQuiet_nil ?_
              intro w8 hw8
              obtain rfl : w8 = wr.drew := hw8
              clear hx hl56 this
              have HS := Lib.hid (HS.out.step (Below.refl _ _).drew)
              have HR := Lib.hid (HR.out.of_block (W' := wr.drew) rfl)
              clear HB0
              go_wp2_with fail
              refine (dx_write HS.out c (by omega) p HPL.out (by rw [wrs_length]; omega)).mono ?_
              rintro e w9 ⟨rfl, hS, hst⟩
              have HR := Lib.hid (HR.out.stays hst (.head _))
              have HS := Lib.hid hS
              clear hS hst
              by_cases hjk : j < n3
              · obtain ⟨b3, o3, cap3, hv, hcell⟩ := keep_in HK.out j hjk
                obtain ⟨rfl, rfl⟩ : a2 = some ⟨b3, o3, none⟩ ∧ cap2 = cap3 := by injection hv with e1 _ e3; exact ⟨e1, e3⟩
                have ck := hcell _ HS.out.below
                clear hcell hv
                rcases Bool.eq_false_or_eq_true (k3 j) with hs | hs
                · have HKK := Lib.hid (show kept n3 k3 (wrs l2 j).length = true by rw [wrs_length]; simp [kept, hjk, hs])
                  rw [hs] at ck
                  clear hs
                  have HB0 := Lib.hid HS.out.below
                  have hx : ∀ y : WS (fun X => X = w9.drew), y.w.cell? ⟨b, o + j * 67 + 1, none⟩ = some (.int .i64 x) := fun y => by rw [y.ok]; exact HC1.out _ HB0.out.drew
                  have hl56 : ∀ y : WS (fun X => X = w9.drew), (Instr.loadAt 56 (.pointer (some ⟨b, o + j * 67 + 2, none⟩))).run Try.prog y.w = .ok (.agg (p.map bv).toArray) y.w := fun y => by rw [y.ok]; exact HCP.out _ HB0.out.drew
                  haveI : Nonempty (WS (fun X => X = w9.drew)) := ⟨⟨w9.drew, rfl⟩⟩
                  go_upto_region 22 with fail
                  refine wp_region_ws_tail (fun X => X = w9.drew) 12 (by kernel_rfl) (by kernel_rfl) rfl ?_
                  simp only [List.take_succ_cons, List.take_zero, List.drop_succ_cons, List.drop_zero]
                  repeat (first
                    | (go_big_quiet_step (fail))
                    | (go_big_quiet_want; refine quiet_load 56 _ (by rfl) _ (by rfl) _ hl56 ?_; go_simp; go_big_quiet_on))
                  refine wpQuiet_nil ?_
                  intro w8 hw8
                  obtain rfl : w8 = w9.drew := hw8
                  clear hx hl56 this
                  have HS := Lib.hid (HS.out.step (Below.refl _ _).drew)
                  have HR := Lib.hid (HR.out.of_block (W' := w9.drew) rfl)
                  clear HB0
                  have HT := Lib.hid (HR.out.there c hc8)
                  have HS := Lib.hid (HS.out.setCells (g := g2) (.head _) (c * 64) (p.map bv))
                  have HR := Lib.hid (HR.out.set c hc8 p HPL.out)
                  rw [stl_arr _ _ _ _ _ HKK.out, ← HN.out] at HR
                  rw [← HN.out] at HS
                  clear ck HKK
                  go_wp2_with (refine wpList_store56k (by rfl) _ _ (by rfl) g2 (c * 64) (by rfl) p (by rfl) HPL.out HT.out ?_)
                  exact ⟨⟨j + 1, by omega, by simp, HS.out, HR.out⟩, by simp only [intOf]; omega⟩
                · have HKK := Lib.hid (show kept n3 k3 (wrs l2 j).length = false by rw [wrs_length]; simp [kept, hs])
                  rw [hs] at ck
                  clear hs
                  go_wp2_with fail
                  exact ⟨⟨j + 1, by omega, by simp, by rw [HN.out]; exact HS.out, by rw [HN.out]; rw [stl_skip _ _ _ _ HKK.out]; exact HR.out⟩, by simp only [intOf]; omega⟩
              · have HKK := Lib.hid (show kept n3 k3 (wrs l2 j).length = false by rw [wrs_length]; simp [kept, hjk])
                go_wp2_with fail
                exact ⟨⟨j + 1, by omega, by simp, by rw [HN.out]; exact HS.out, by rw [HN.out]; rw [stl_skip _ _ _ _ HKK.out]; exact HR.out⟩, by simp only [intOf]; omega⟩
            · have hje : j = n2 := by omega
              subst hje
              go_wp2_with fail
              refine (dx_crash_arg HS.out (by rw [wrs_length]; omega) _ n3 k3 HK.out).mono ?_
              rintro e w8 ⟨rfl, hZ, hst⟩
              have HR := Lib.hid (HR.out.stays hst (.head _))
              have HZ := Lib.hid hZ
              clear hZ hst HS
              go_wp2_with fail
              refine (dx_up HZ.out).mono ?_
              rintro e w9 ⟨rfl, hS, hst⟩
              have HR := Lib.hid (HR.out.stays hst (.head _))
              obtain ⟨S2, hS2⟩ : ∃ S2, stl (kept n3 k3) (wrs l2 j) S1 = S2 := ⟨_, rfl⟩
              rw [hS2] at hS HR
              have HSL2 := Lib.hid hS.len
              have HS := Lib.hid hS
              clear hS hst HZ hS2 HK HA2 F2 F HA A hn3 hg1 hn60 hk hj
              go_wp2_with fail
              go_loopw [6, 13, 14, 15, 128, 129, 130, 131, 132, 133, 134, 135, 136, 137, 138, 139, 140, 141, 142, 143, 144, 145, 146] (fun _ a13 _ _ _ _ _ _ _ _ _ _ _ _ _ _ _ _ _ _ _ _ _ wr => ∃ j : Nat, j ≤ 8 ∧ a13 = .int .i64 j ∧ DX w wr d m1 m2 S2 [] [g2] ∧ Arr wr g2 (fun i => S2 i)) (fun _ a13 _ _ _ _ _ _ _ _ _ _ _ _ _ _ _ _ _ _ _ _ _ _ => 8 - (intOf a13).toNat)
              case atStart => exact ⟨0, by omega, rfl, HS.out, HR.out⟩
              case round =>
                clear HS HR
                obtain ⟨j, hj, rfl, hS, hR⟩ := hrel
                have HS := Lib.hid hS
                have HR := Lib.hid hR
                clear hS hR
                by_cases hlt : j < 8
                · go_wp2_with fail
                  refine (dx_read HS.out j (by omega) (by decide)).mono ?_
                  rintro e w9 ⟨rfl, hS, hst⟩
                  obtain ⟨q, hq⟩ : ∃ q, (lastAt ([] : List Wr) (j : Int)).getD (S2 j) = q := ⟨_, rfl⟩
                  have hql : q.length = 64 := by rw [← hq]; exact HSL2.out j
                  have HQL := Lib.hid hql
                  have hra : Arr w9 g2 (fun i => S2 i) := HR.out.stays hst (.head _)
                  have hrg := hra.at_ j hlt
                  rw [show S2 j = q from hq] at hrg
                  rw [hq]
                  have HG := Lib.hid hrg
                  have HR2 := Lib.hid hra
                  have HS2 := Lib.hid hS
                  have hne : ∀ W, (binOp .neq 56 (.agg (q.map bv).toArray) (.agg (q.map bv).toArray)).run Try.prog W = .ok (.bool false) W := fun W => by
                    have := run_neq56 W q q hql hql
                    rwa [bne_self_eq_false] at this
                  have HNE := Lib.hid hne
                  clear hS hst hq hra hrg hql hne
                  go_upto_region 29 with (refine wpList_new56 (by rfl) _ _ (by rfl) _ _ rfl (by rfl) (by rfl) q (by rfl) HQL.out ?_; intro w10 hbuf hw10 hlt10; have HB := Lib.hid hbuf; have HS3 := Lib.hid (HS2.out.made hw10 hlt10); have HR3 := Lib.hid (HR2.out.of_block (hw10.block _ (HS2.out.lt (.head _)))); have HG2 := Lib.hid (show w10.drew.rangeAt g2 (j * 64) (q.map bv) from fun x y hy => (World.cell?_of_block (a := ⟨g2, j * 64 + x, none⟩) (hw10.block _ (HS2.out.lt (.head _)))).trans (HG.out x y hy)); clear hbuf hw10 hlt10)
                  generalize w9.heap.size = g3 at *
                  have hl1 : ∀ y : WS (fun X => X = w10.drew), (Instr.loadAt 56 (.pointer (some ⟨g3, 0, none⟩))).run Try.prog y.w = .ok (.agg (q.map bv).toArray) y.w := fun y => by rw [y.ok]; exact HB.out.drew.load56
                  have hl2 : ∀ y : WS (fun X => X = w10.drew), (Instr.loadAt 56 (.pointer (some ⟨g2, j * 64, none⟩))).run Try.prog y.w = .ok (.agg (q.map bv).toArray) y.w := fun y => by rw [y.ok]; exact load56_at HQL.out HG2.out
                  have hne := HNE.out
                  haveI : Nonempty (WS (fun X => X = w10.drew)) := ⟨⟨w10.drew, rfl⟩⟩
                  refine wp_region_ws (fun X => X = w10.drew) (by kernel_rfl) (by kernel_rfl) rfl ?_
                  repeat (first
                    | (go_big_quiet_step (fail))
                    | (go_big_quiet_want; refine quiet_load 56 _ (by rfl) _ (by rfl) _ hl1 ?_; go_simp; go_big_quiet_on)
                    | (go_big_quiet_want; refine quiet_load 56 _ (by rfl) _ (by rfl) _ hl2 ?_; go_simp; go_big_quiet_on))
                  refine wpQuiet_nil ?_
                  rintro w12 ⟨⟨w11, hw11⟩, hw12⟩
                  have hww : w12 = w10.drew := hw12.trans hw11
                  clear hw12 hw11
                  subst hww
                  clear hl1 hl2 hne this
                  have HS4 := Lib.hid ((HS3.out.less (l' := [g2]) (fun k hk => .tail _ hk)).step (Below.refl _ _).drew)
                  have HR4 := Lib.hid (HR3.out.of_block (W' := w10.drew) rfl)
                  clear HS3 HR3 HG2 HB HS2 HR2 HG HNE
                  go_wp2_with fail
                  exact ⟨⟨j + 1, by omega, by simp, HS4.out, HR4.out⟩, by simp only [intOf]; omega⟩
                · obtain rfl : j = 8 := by omega
                  go_wp2_with fail
                  refine (dx_loose HS.out).mono ?_
                  rintro e w9 ⟨rfl, rfl⟩
                  go_wp2_with fail
                  go_ret
                  exact ⟨rfl, HS.out.below⟩
    · go_wp2_with fail
      refine AG.out _ (fun w3 hb => ?_)
      go_wp2_with fail
      go_ret
      exact ⟨rfl, hb⟩
  · go_wp2_with fail
    refine AG.out _ (fun w3 hb => ?_)
    go_wp2_with fail
    go_ret
    exact ⟨rfl, hb⟩
end Go.Proofs.Ytmaaljfcnnlnpaa
