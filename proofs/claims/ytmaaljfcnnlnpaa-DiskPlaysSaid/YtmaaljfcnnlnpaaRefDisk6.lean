/-
  The document's disk: a crash.
-/
import Derived.Test.YtmaaljfcnnlnpaaRefDisk5
namespace Go.Proofs.Ytmaaljfcnnlnpaa
open Go.RowKit

theorem crs_mem (ks : Nat → Bool) (at_ : List Int) (what s : List (List UInt8)) (h1 : P64 s) (h2 : P64 what) : ∀ j, j ≤ what.length → P64 (crs ks at_ what s j)
  | 0, _ => h1
  | j + 1, hj => by
    show P64 (if ks j = true then _ else _ : List (List UInt8))
    split
    · intro q hq
      rcases List.mem_or_eq_of_mem_set hq with hq | rfl
      · exact crs_mem ks at_ what s h1 h2 j (by omega) q hq
      · rw [List.getD_eq_getElem?_getD, List.getElem?_eq_getElem (by omega)]
        exact h2 _ (List.getElem_mem _)
    · exact crs_mem ks at_ what s h1 h2 j (by omega)

/-- What a crash is handed. -/
structure CrH (at_ : List Int) (wh su : List (List UInt8)) : Prop where
  inn : ∀ j, j < at_.length → 0 ≤ at_.getD j 0 ∧ (at_.getD j 0).toNat < su.length
  len : wh.length = at_.length

theorem cr_final {W Z : World} {B : Nat} {a b c d a' b' : Value} {su se : List (List UInt8)} {at_ : List Int} {wh : List (List UInt8)} {dn : Bool} {f : Int} (h : RfAt W B a b c d ⟨su, se, at_, wh, dn, f⟩) (hB : B ≤ W.heap.size) (hb : Below W.heap.size W Z) (ks : Nat → Bool) {N : Nat} (hN : W.heap.size ≤ N)
    (hS : Z.ownsRow N 55 64 a' su.length (psC (crs ks at_ wh su at_.length))) (hS2 : Z.ownsRow N 55 64 b' su.length (psC (crs ks at_ wh su at_.length))) (hh : CrH at_ wh su) :
    RfAt Z B a' b' (.slice none 0 0) (.slice none 0 0) (Rf.crash ⟨su, se, at_, wh, dn, f⟩ ks) ∧ ∀ x ∈ rv4 a' b' (.slice none 0 0) (.slice none 0 0), x ∈ rv4 a b c d ∨ W.heap.size ≤ x := by
  have e9 := crs_length ks at_ wh su at_.length
  have h64 := crs_mem ks at_ wh su h.s64 h.w64 at_.length (by rw [hh.len]; exact Nat.le_refl _)
  refine ⟨⟨?_, ?_, World.ownsRow_nil _ _ _ _, World.ownsRow_nil _ _ _ _, h64, h64, fun _ hx => (by cases hx), ?_, ?_, Nat.zero_le _, Nat.zero_le _⟩, fun x hx => ?_⟩
  · have := row_base hS (Nat.le_trans hB hN)
    rwa [← e9] at this
  · have := row_base hS2 (Nat.le_trans hB hN)
    rwa [← e9] at this
  · show (crs ks at_ wh su at_.length).length ≤ 1000
    rw [e9]; exact h.few.1
  · show (crs ks at_ wh su at_.length).length ≤ 1000
    rw [e9]; exact h.few.1
  · rcases rv4_mem.1 hx with e | e | e | e
    · exact .inr (Nat.le_trans hN (ownsRow_ge hS e).1)
    · exact .inr (Nat.le_trans hN (ownsRow_ge hS2 e).1)
    · cases e
    · cases e

theorem row_some {W : World} {base : Nat} {e : TypeId} {size : Nat} {a : Option Addr} {n c : Nat} {xs : List Value} (h : W.ownsRow base e size (.slice a n c) n xs) (hn : 0 < n) : ∃ g, a = some ⟨g, 0, none⟩ := by
  rcases h.2 with ⟨_, e2⟩ | ⟨g, cap, cur, e1, _⟩
  · omega
  · injection e1 with e1 _ _
    exact ⟨g, e1⟩

theorem load55_at {W : World} {g o : Nat} {bs : List UInt8} (hl : bs.length = 64) (h : W.rangeAt g o (bs.map bv)) : (Instr.loadAt 55 (.pointer (some ⟨g, o, none⟩))).run Try.prog W = .ok (pgB bs) W :=
  run_loadAt_mid W g o 55 (bs.map bv) _ h Try.underlying55 rfl (by rw [info55, List.length_map, hl])

/-- The worlds of the loop. -/
structure CrL (W wr : World) (B1 e2 : Nat) (cs : List Value) (g3 cap3 : Nat) (n : Nat) (s : List (List UInt8)) : Prop where
  bx : Bx W wr W.heap.size e2 cs zero6
  row : wr.ownsRow B1 55 64 (.slice (some ⟨g3, 0, none⟩) n cap3) n (psC s)

theorem Bx.far {W X : World} {e1 e2 : Nat} {cs1 cs2 : List Value} (h : Bx W X e1 e2 cs1 cs2) (g o : Nat) (vs : List Value) (h1 : e1 ≠ g) (h2 : e2 ≠ g) (h4 : W.heap.size ≤ g) : Bx W (X.setCells g o vs) e1 e2 cs1 cs2 := by
  have hs : (X.setCells g o vs).heap.size = X.heap.size := heap_size_setCells _ _ _ _
  exact ⟨h.b1.of_block (setCells_block _ _ _ _ _ h1) (by rw [hs]; exact h.b1.lt), h.b2.of_block (setCells_block _ _ _ _ _ h2) (by rw [hs]; exact h.b2.lt), h.ne, h.g1, h.g2, set_below h.below g h4 o vs⟩

set_option maxRecDepth 100000 in
set_option maxHeartbeats 8000000 in
theorem rcrash {W : World} {B : Nat} {a b c d : Value} {r : Rf} (h : RfAt W B a b c d r) (hB : B ≤ W.heap.size) (kv : Value) (n : Nat) (ks : Nat → Bool) (hk : KeepAt W kv n ks) (hkn : n ≤ maxLen) (hh : CrH r.at_ r.what r.sure) :
    Calls Try.prog 68 #[rfV a b c d r, kv] W fun e w' => ∃ a' b', e = .returned (rfV a' b' (.slice none 0 0) (.slice none 0 0) (r.crash (kept n ks))) ∧ RfAt w' B a' b' (.slice none 0 0) (.slice none 0 0) (r.crash (kept n ks)) ∧ Below W.heap.size W w' ∧ ∀ x ∈ rv4 a' b' (.slice none 0 0) (.slice none 0 0), x ∈ rv4 a b c d ∨ W.heap.size ≤ x := by
  have HR := Lib.hid h
  have HH := Lib.hid hh
  have HKA := Lib.hid hk
  obtain ⟨ka, kcap, rfl, -⟩ := hk
  unfold maxLen at hkn
  obtain ⟨a1, a3, rfl⟩ := ownsRow_form h.sure
  obtain ⟨b1, b3, rfl⟩ := ownsRow_form h.seen
  obtain ⟨c1, c3, rfl⟩ := ownsRow_form h.at_
  obtain ⟨d1, d3, rfl⟩ := ownsRow_form h.what
  clear h hh
  obtain ⟨su, se, at_, wh, dn, f⟩ := r
  unfold rfV
  dsimp only
  have HF4 : Hid (su.length ≤ 1000 ∧ at_.length ≤ 1000 ∧ wh.length ≤ 1000) := Lib.hid ⟨HR.out.few.1, HR.out.few.2.2.1, HR.out.few.2.2.2⟩
  have hal : at_.length ≤ 1000 := HF4.out.2.1
  go_enter Try.func68, Try.ntmps68
  go_upto_region 1 with fail
  refine wp_gate (fun X => Bx W X W.heap.size (W.heap.size + 1) [.slice a1 su.length a3, .slice b1 se.length b3, .slice c1 at_.length c3, .slice d1 wh.length d3, .bool dn, .int .i64 f] zero6) (Bx.start W [.slice a1 su.length a3, .slice b1 se.length b3, .slice c1 at_.length c3, .slice d1 wh.length d3, .bool dn, .int .i64 f] rfl) ?_
  intro X1 hX
  have HX := Lib.hid hX
  clear hX
  obtain ⟨iT, hE99⟩ := el99
  have HL := Lib.hid hE99
  clear hE99
  have HLT := Lib.hid (And.intro HX.out.b1.lt HX.out.b2.lt)
  have HBW := Lib.hid HX.out.below.size
  have HE0 := Lib.hid (no_row X1 X1.heap.size (Nat.le_refl _) 55 64)
  have HA1 := Lib.hid (show Below X1.heap.size X1 (X1.alloc (.cells #[] 55)) from (Below.refl _ _).alloc (Nat.le_refl _) _)
  have HSR := Lib.hid (rowSrc_row (row_below HR.out.sure (HX.out.step HA1.out).below) (psC_cell _))
  have HN0 : Hid (0 + su.length ≤ 100000) := Lib.hid (by have := HF4.out.1; omega)
  have HN1 : Hid (0 + su.length ≤ 100000) := HN0
  have c0' : (X1.alloc (.cells #[] 55)).cell? ⟨W.heap.size, 0, none⟩ = some (.slice a1 su.length a3) := (HX.out.step HA1.out).b1.cell 0 _ rfl
  iterate 10 (first | go_values | go_skip | go_guarded | go_step)
  refine wpList_app_row (t := 99) (e := 55) (size := 64) (bytes := 64) (base := X1.heap.size) HL.out (by rfl) (.tmp 7) (.tmp 9) (by rfl) HE0.out HSR.out (by rfl) (by rfl) HN0.out (by decide) HA1.out.size ?_
  intro g3 cap3 w3 ho hg hl
  simp only [Nat.zero_add] at ho ⊢
  rw [List.nil_append] at ho
  have HZ0 : Hid (CrL W w3 X1.heap.size (W.heap.size + 1) [.slice a1 su.length a3, .slice b1 se.length b3, .slice c1 at_.length c3, .slice d1 wh.length d3, .bool dn, .int .i64 f] g3 cap3 su.length (crs (kept n ks) at_ wh su 0)) := Lib.hid ⟨HX.out.step (row_grown HA1.out hg (Nat.le_refl _) (Nat.le_refl _)), ho⟩
  have HG3 : Hid (X1.heap.size ≤ g3) := Lib.hid (ownsRow_ge ho (by rfl)).1
  clear ho hg hl c0' HSR HE0 HA1 HX
  generalize X1.heap.size = B1 at *
  go_wp2_with fail
  go_loopw [6, 11, 12, 13, 14, 15, 16, 17, 18, 19, 20, 21, 22, 23, 24, 25, 26, 27, 28, 29, 30, 31, 32, 33, 34, 35, 36, 37, 38, 39] (fun a6 _ _ _ _ _ _ _ _ _ _ _ _ _ _ _ _ _ _ _ _ _ _ _ _ _ _ _ _ _ wr => ∃ j : Nat, j ≤ at_.length ∧ a6 = .int .i64 j ∧ CrL W wr B1 (W.heap.size + 1) [.slice a1 su.length a3, .slice b1 se.length b3, .slice c1 at_.length c3, .slice d1 wh.length d3, .bool dn, .int .i64 f] g3 cap3 su.length (crs (kept n ks) at_ wh su j)) (fun a6 _ _ _ _ _ _ _ _ _ _ _ _ _ _ _ _ _ _ _ _ _ _ _ _ _ _ _ _ _ _ => at_.length - (intOf a6).toNat)
  case atStart => exact ⟨0, Nat.zero_le _, rfl, HZ0.out⟩
  case round =>
    obtain ⟨j, hj, rfl, hZ⟩ := hrel
    have HZ := Lib.hid hZ
    have hc2 := hZ.bx.b1.cell 2 _ rfl
    clear hZ HZ0
    by_cases hlt : j < at_.length
    · obtain ⟨hin0, hin1⟩ := HH.out.inn j hlt
      obtain ⟨x, hx⟩ : ∃ x : Nat, at_.getD j 0 = (x : Int) := ⟨(at_.getD j 0).toNat, by omega⟩
      rw [hx, Int.toNat_natCast] at hin1
      have HXS : Hid (x < su.length) := Lib.hid hin1
      have hw : j < wh.length := by have := HH.out.len; omega
      obtain ⟨gc, rfl⟩ := row_some HR.out.at_ (show 0 < at_.length by omega)
      obtain ⟨gd, rfl⟩ := row_some HR.out.what (show 0 < wh.length by omega)
      have HBL := Lib.hid HZ.out.bx.below
      have HP : Hid ((wh.getD j []).length = 64) := Lib.hid (by
        rw [List.getD_eq_getElem?_getD, List.getElem?_eq_getElem hw]
        exact HR.out.w64 _ (List.getElem_mem _))
      have HCA : Hid (∀ X, Below W.heap.size W X → X.cell? ⟨gc, j, none⟩ = some (.int .i64 (x : Int))) := Lib.hid fun X hX => by
        have := own_cell (row_below HR.out.at_ hX) j (.int .i64 (x : Int)) (by rw [← hx, inC, List.getElem?_map, List.getD_eq_getElem?_getD, List.getElem?_eq_getElem hlt]; rfl)
        exact this
      have HCW : Hid (∀ X, Below W.heap.size W X → X.rangeAt gd (j * 64) ((wh.getD j []).map bv)) := Lib.hid fun X hX => by
        have := row_page (row_below HR.out.what hX) HR.out.w64 j hw
        rw [List.getD_eq_getElem?_getD, List.getElem?_eq_getElem hw]
        exact this
      have HNX : Hid (kept n ks j = true → (crs (kept n ks) at_ wh su j).set x (wh.getD j []) = crs (kept n ks) at_ wh su (j + 1)) := Lib.hid fun hk => by
        show _ = if kept n ks j = true then _ else _
        rw [if_pos hk, hx, Int.toNat_natCast]
      have HNY : Hid (¬ kept n ks j = true → crs (kept n ks) at_ wh su j = crs (kept n ks) at_ wh su (j + 1)) := Lib.hid fun hk => by
        show _ = if kept n ks j = true then _ else _
        rw [if_neg hk]
      have H6S : Hid (P64 (crs (kept n ks) at_ wh su j) ∧ (crs (kept n ks) at_ wh su j).length = su.length) := Lib.hid ⟨crs_mem _ _ _ _ HR.out.s64 HR.out.w64 j (Nat.le_of_lt hw), crs_length _ _ _ _ _⟩
      clear hx
      generalize wh.getD j [] = p at *
      generalize crs (kept n ks) at_ wh su j = s at *
      have hj0 : (0 : Int) ≤ (j : Int) := by omega
      have hj1 : (j : Int) < (at_.length : Int) := by omega
      have hj2 : (j : Int) < (wh.length : Int) := by omega
      by_cases hjn : j < n
      · obtain ⟨ka', kcap', hkv, hkc⟩ := HKA.out
        injection hkv with hkv1 _ hkv3
        subst hkv1
        clear hkv3
        rcases hkc with h0 | ⟨kb, ko, rfl, hkc⟩
        · omega
        have hck : wr.cell? ⟨kb, ko + j, none⟩ = some (.bool (ks j)) := cell_below (hkc j hjn) HBL.out
        clear hkc
        have hkj : kept n ks j = ks j := by simp [kept, hjn]
        have HKJ := Lib.hid hkj
        clear hkj
        rcases Bool.eq_false_or_eq_true (ks j) with hkt | hkf
        · have HNX' := Lib.hid (HNX.out (by rw [HKJ.out, hkt]))
          rw [hkt] at hck
          clear HNX HNY HKJ hkt
          go_upto_region 6 with fail
          clear hck hc2
          haveI : Nonempty (WS (fun X => X = wr.drew)) := ⟨⟨wr.drew, rfl⟩⟩
          have HZD : Hid (CrL W wr.drew B1 (W.heap.size + 1) [.slice a1 su.length a3, .slice b1 se.length b3, .slice (some ⟨gc, 0, none⟩) at_.length c3, .slice (some ⟨gd, 0, none⟩) wh.length d3, .bool dn, .int .i64 f] g3 cap3 su.length s) := Lib.hid ⟨HZ.out.bx.step (Below.refl _ _).drew, row_below HZ.out.row (Below.refl _ _).drew⟩
          have k2 : ∀ y : WS (fun X => X = wr.drew), y.w.cell? ⟨W.heap.size, 2, none⟩ = some (.slice (some ⟨gc, 0, none⟩) at_.length c3) := fun y => by rw [y.ok]; exact HZD.out.bx.b1.cell 2 _ rfl
          have k3 : ∀ y : WS (fun X => X = wr.drew), y.w.cell? ⟨W.heap.size, 3, none⟩ = some (.slice (some ⟨gd, 0, none⟩) wh.length d3) := fun y => by rw [y.ok]; exact HZD.out.bx.b1.cell 3 _ rfl
          have ka : ∀ y : WS (fun X => X = wr.drew), y.w.cell? ⟨gc, j, none⟩ = some (.int .i64 (x : Int)) := fun y => by rw [y.ok]; exact HCA.out _ HZD.out.bx.below
          have hl55 : ∀ y : WS (fun X => X = wr.drew), (Instr.loadAt 55 (.pointer (some ⟨gd, j * 64, none⟩))).run Try.prog y.w = .ok (.agg (p.map bv).toArray) y.w := fun y => by rw [y.ok]; exact load55_at HP.out (HCW.out _ HZD.out.bx.below)
          have hx0 : (0 : Int) ≤ (x : Int) := by omega
          have hx1 : (x : Int) < (su.length : Int) := by omega
          refine wp_region_ws_tail (fun X => X = wr.drew) 12 (by kernel_rfl) (by kernel_rfl) rfl ?_
          simp only [List.take_succ_cons, List.take_zero, List.drop_succ_cons, List.drop_zero]
          repeat (first
            | (go_big_quiet_step (fail))
            | (go_big_quiet_want; refine quiet_load 55 _ (by rfl) _ (by rfl) _ hl55 ?_; go_simp; go_big_quiet_on))
          refine wpQuiet_nil ?_
          intro w8 hw8
          obtain rfl : w8 = wr.drew := hw8
          clear k2 k3 ka hl55 this
          have TH := Lib.hid (row_set HZD.out.row H6S.out.1 H6S.out.2.symm x (by rw [H6S.out.2]; exact HXS.out) p HP.out)
          have HZ2 := Lib.hid (show CrL W (wr.drew.setCells g3 (x * 64) (p.map bv)) B1 (W.heap.size + 1) [.slice a1 su.length a3, .slice b1 se.length b3, .slice (some ⟨gc, 0, none⟩) at_.length c3, .slice (some ⟨gd, 0, none⟩) wh.length d3, .bool dn, .int .i64 f] g3 cap3 su.length _ from ⟨HZD.out.bx.far g3 (x * 64) (p.map bv) (by have := HG3.out; have := HLT.out.1; omega) (by have := HG3.out; have := HLT.out.2; omega) (Nat.le_trans HBW.out HG3.out), TH.out.1⟩)
          rw [HNX'.out] at HZ2
          go_upto_region 4 with (refine wpList_store55k (by rfl) _ _ (by rfl) g3 (x * 64) (by rfl) p (by rfl) HP.out TH.out.2 ?_)
          change Code.wp _ _ _ _ (wr.drew.setCells g3 (x * 64) (p.map bv))
          generalize wr.drew.setCells g3 (x * 64) (p.map bv) = X2 at *
          go_wp2_with fail
          exact ⟨⟨j + 1, by omega, by simp, HZ2.out⟩, by simp only [intOf]; omega⟩
        · have HNY' := Lib.hid (HNY.out (by rw [HKJ.out, hkf]; simp))
          rw [hkf] at hck
          clear HNX HNY HKJ hkf
          have HZ2 := HZ
          rw [HNY'.out] at HZ2
          go_wp2_with fail
          exact ⟨⟨j + 1, by omega, by simp, HZ2.out⟩, by simp only [intOf]; omega⟩
      · have HNY' := Lib.hid (HNY.out (by simp [kept, hjn]))
        have hjn2 : ¬ (j : Int) < (n : Int) := by omega
        clear HNX HNY
        have HZ2 := HZ
        rw [HNY'.out] at HZ2
        go_wp2_with fail
        exact ⟨⟨j + 1, by omega, by simp, HZ2.out⟩, by simp only [intOf]; omega⟩
    · have hje : j = at_.length := by omega
      subst hje
      go_upto_region 7 with fail
      have HX := Lib.hid HZ.out.bx
      have HRW := Lib.hid HZ.out.row
      clear hc2 HZ
      generalize wr = Y at *
      have HB1Y : Hid (B1 ≤ Y.heap.size) := Lib.hid (by have := ownsRow_ge HRW.out (by rfl); omega)
      refine wp_region_any (by kernel_rfl) ?_
      change wpAny _ _ _ _ _ _ _ Y.drew
      have HB0 := Lib.hid (show Below Y.heap.size Y Y.drew from (Below.refl _ _).drew)
      generalize Y.drew = X0 at *
      refine wpAny_take (i := 0) (v := .slice (some ⟨g3, 0, none⟩) su.length cap3) rfl (by kernel_rfl) (by kernel_rfl) (by kernel_rfl) (fun _ _ _ h => h) (Or.inl ⟨by rfl, by intro w; go_simp⟩) ?_
      simp only [Act.put, List.setIfInBounds_toArray, List.set_cons_zero, List.set_cons_succ]
      refine wpAny_take (i := 2) (v := .slice (some ⟨g3, 0, none⟩) su.length cap3) rfl (by kernel_rfl) (by kernel_rfl) (by kernel_rfl) (fun _ _ _ h => h) (Or.inl ⟨by rfl, by intro w; go_simp⟩) ?_
      simp only [Act.put, List.setIfInBounds_toArray, List.set_cons_zero, List.set_cons_succ]
      refine wpAny_take (i := 4) (v := .pointer (some ⟨W.heap.size, 5, none⟩)) rfl (by kernel_rfl) (by kernel_rfl) (by kernel_rfl) (fun _ _ _ h => h) (Or.inl ⟨by rfl, by intro w; go_simp⟩) ?_
      simp only [Act.put, List.setIfInBounds_toArray, List.set_cons_zero, List.set_cons_succ]
      refine wpAny_ready (rs := [1, 5]) (by kernel_rfl) (by simp) ?_
      refine AllReady.cons rfl (fun K hK => ?_) (AllReady.cons rfl (fun K hK => ?_) AllReady.nil)
      · go_simp
        refine hK _ _ ?_
        clear hK K
        have HE := Lib.hid (no_row X0 Y.heap.size HB0.out.size 55 64)
        have HB1 := Lib.hid (HB0.out.alloc HB0.out.size (.cells #[] 55))
        generalize X0.heap.size = e0 at *
        generalize X0.alloc (.cells #[] 55) = X1 at *
        refine wpAny_ready (rs := [3, 5]) (by kernel_rfl) (by simp) ?_
        refine AllReady.cons rfl (fun K hK => ?_) (AllReady.cons rfl (fun K hK => ?_) AllReady.nil)
        · rw [if_pos (by rfl)]
          refine wp_app_row HL.out _ _ (by rfl) HE.out (rowSrc_row (row_below HRW.out HB1.out) (psC_cell _)) (by rfl) (by rfl) HN1.out (by decide) HB1.out.size ?_
          intro g4 cap4 X2 ho hg hl
          simp only [Nat.zero_add] at ho ⊢
          rw [List.nil_append] at ho
          simp only [Act.put, List.setIfInBounds_toArray, List.set_cons_zero, List.set_cons_succ]
          refine hK _ _ ?_
          clear hK K
          have HB2 := Lib.hid (row_grown HB1.out hg (ownsRow_ge HE.out (by rfl)).1 (Nat.le_refl _))
          have H43 := Lib.hid ho
          clear ho hg hl HE
          refine wpAny_ready (rs := [5]) (by kernel_rfl) (by simp) ?_
          refine AllReady.cons rfl (fun K hK => ?_) AllReady.nil
          have c5 : X2.cell? ⟨W.heap.size, 5, none⟩ = some (.int .i64 f) := (HX.out.step HB2.out).b1.cell 5 _ rfl
          go_simp
          refine hK _ _ ?_
          clear hK K c5
          refine wpAny_ready (rs := [6]) (by kernel_rfl) (by simp) ?_
          refine AllReady.cons rfl (fun K hK => ?_) AllReady.nil
          go_simp
          refine hK _ _ ?_
          clear hK K
          refine wpAny_ready (rs := [7]) (by kernel_rfl) (by simp) ?_
          refine AllReady.cons rfl (fun K hK => ?_) AllReady.nil
          rw [if_pos (by rfl)]
          refine wp_store_mid 102 _ _ (by rfl) (W.heap.size + 1) 0 ([.slice (some ⟨g3, 0, none⟩) su.length cap3, .slice (some ⟨g4, 0, none⟩) su.length cap4, .slice none 0 0, .slice none 0 0, .bool true, .int .i64 f]).toArray (by rfl) (by rfl) (HX.out.step HB2.out).b2.there (by rw [info102]; rfl) (by simp [Value.oneCell']) ?_
          simp only [Act.put, List.setIfInBounds_toArray, List.set_cons_zero, List.set_cons_succ]
          refine hK _ _ ?_
          clear hK K
          refine wpAny_done (by kernel_rfl) ?_ _
          have HX2 := Lib.hid ((HX.out.step HB2.out).set2 [.slice (some ⟨g3, 0, none⟩) su.length cap3, .slice (some ⟨g4, 0, none⟩) su.length cap4, .slice none 0 0, .slice none 0 0, .bool true, .int .i64 f] rfl)
          have HS2 := Lib.hid (row_set_far (row_below HRW.out HB2.out) (W.heap.size + 1) 0 [.slice (some ⟨g3, 0, none⟩) su.length cap3, .slice (some ⟨g4, 0, none⟩) su.length cap4, .slice none 0 0, .slice none 0 0, .bool true, .int .i64 f] (row_out HRW.out HLT.out.2))
          have HS3 := Lib.hid (row_set_far (row_base H43.out HB1Y.out) (W.heap.size + 1) 0 [.slice (some ⟨g3, 0, none⟩) su.length cap3, .slice (some ⟨g4, 0, none⟩) su.length cap4, .slice none 0 0, .slice none 0 0, .bool true, .int .i64 f] (row_out (row_base H43.out HB1Y.out) HLT.out.2))
          go_wp2_with fail
          have HFIN := Lib.hid (cr_final HR.out hB HX2.out.below (kept n ks) HBW.out HS2.out HS3.out HH.out)
          exact bodyPost_ret (results_cell1 (p := 4) (ty := 102) rfl _ _ ⟨W.heap.size + 1, 0, none⟩ _ rfl HX2.out.b2.load) rfl ⟨_, _, rfl, HFIN.out.1, HX2.out.below, HFIN.out.2⟩
        · have c5 : X1.cell? ⟨W.heap.size, 5, none⟩ = some (.int .i64 f) := (HX.out.step HB1.out).b1.cell 5 _ rfl
          go_simp
          refine hK _ _ ?_
          clear hK K c5
          refine wpAny_ready (rs := [3]) (by kernel_rfl) (by simp) ?_
          refine AllReady.cons rfl (fun K hK => ?_) AllReady.nil
          rw [if_pos (by rfl)]
          refine wp_app_row HL.out _ _ (by rfl) HE.out (rowSrc_row (row_below HRW.out HB1.out) (psC_cell _)) (by rfl) (by rfl) HN1.out (by decide) HB1.out.size ?_
          intro g4 cap4 X2 ho hg hl
          simp only [Nat.zero_add] at ho ⊢
          rw [List.nil_append] at ho
          simp only [Act.put, List.setIfInBounds_toArray, List.set_cons_zero, List.set_cons_succ]
          refine hK _ _ ?_
          clear hK K
          have HB2 := Lib.hid (row_grown HB1.out hg (ownsRow_ge HE.out (by rfl)).1 (Nat.le_refl _))
          have H43 := Lib.hid ho
          clear ho hg hl HE
          refine wpAny_ready (rs := [6]) (by kernel_rfl) (by simp) ?_
          refine AllReady.cons rfl (fun K hK => ?_) AllReady.nil
          go_simp
          refine hK _ _ ?_
          clear hK K
          refine wpAny_ready (rs := [7]) (by kernel_rfl) (by simp) ?_
          refine AllReady.cons rfl (fun K hK => ?_) AllReady.nil
          rw [if_pos (by rfl)]
          refine wp_store_mid 102 _ _ (by rfl) (W.heap.size + 1) 0 ([.slice (some ⟨g3, 0, none⟩) su.length cap3, .slice (some ⟨g4, 0, none⟩) su.length cap4, .slice none 0 0, .slice none 0 0, .bool true, .int .i64 f]).toArray (by rfl) (by rfl) (HX.out.step HB2.out).b2.there (by rw [info102]; rfl) (by simp [Value.oneCell']) ?_
          simp only [Act.put, List.setIfInBounds_toArray, List.set_cons_zero, List.set_cons_succ]
          refine hK _ _ ?_
          clear hK K
          refine wpAny_done (by kernel_rfl) ?_ _
          have HX2 := Lib.hid ((HX.out.step HB2.out).set2 [.slice (some ⟨g3, 0, none⟩) su.length cap3, .slice (some ⟨g4, 0, none⟩) su.length cap4, .slice none 0 0, .slice none 0 0, .bool true, .int .i64 f] rfl)
          have HS2 := Lib.hid (row_set_far (row_below HRW.out HB2.out) (W.heap.size + 1) 0 [.slice (some ⟨g3, 0, none⟩) su.length cap3, .slice (some ⟨g4, 0, none⟩) su.length cap4, .slice none 0 0, .slice none 0 0, .bool true, .int .i64 f] (row_out HRW.out HLT.out.2))
          have HS3 := Lib.hid (row_set_far (row_base H43.out HB1Y.out) (W.heap.size + 1) 0 [.slice (some ⟨g3, 0, none⟩) su.length cap3, .slice (some ⟨g4, 0, none⟩) su.length cap4, .slice none 0 0, .slice none 0 0, .bool true, .int .i64 f] (row_out (row_base H43.out HB1Y.out) HLT.out.2))
          go_wp2_with fail
          have HFIN := Lib.hid (cr_final HR.out hB HX2.out.below (kept n ks) HBW.out HS2.out HS3.out HH.out)
          exact bodyPost_ret (results_cell1 (p := 4) (ty := 102) rfl _ _ ⟨W.heap.size + 1, 0, none⟩ _ rfl HX2.out.b2.load) rfl ⟨_, _, rfl, HFIN.out.1, HX2.out.below, HFIN.out.2⟩
      · have c5 : X0.cell? ⟨W.heap.size, 5, none⟩ = some (.int .i64 f) := (HX.out.step HB0.out).b1.cell 5 _ rfl
        go_simp
        refine hK _ _ ?_
        clear hK K c5
        refine wpAny_ready (rs := [1]) (by kernel_rfl) (by simp) ?_
        refine AllReady.cons rfl (fun K hK => ?_) AllReady.nil
        go_simp
        refine hK _ _ ?_
        clear hK K
        have HE := Lib.hid (no_row X0 Y.heap.size HB0.out.size 55 64)
        have HB1 := Lib.hid (HB0.out.alloc HB0.out.size (.cells #[] 55))
        generalize X0.heap.size = e0 at *
        generalize X0.alloc (.cells #[] 55) = X1 at *
        refine wpAny_ready (rs := [3]) (by kernel_rfl) (by simp) ?_
        refine AllReady.cons rfl (fun K hK => ?_) AllReady.nil
        rw [if_pos (by rfl)]
        refine wp_app_row HL.out _ _ (by rfl) HE.out (rowSrc_row (row_below HRW.out HB1.out) (psC_cell _)) (by rfl) (by rfl) HN1.out (by decide) HB1.out.size ?_
        intro g4 cap4 X2 ho hg hl
        simp only [Nat.zero_add] at ho ⊢
        rw [List.nil_append] at ho
        simp only [Act.put, List.setIfInBounds_toArray, List.set_cons_zero, List.set_cons_succ]
        refine hK _ _ ?_
        clear hK K
        have HB2 := Lib.hid (row_grown HB1.out hg (ownsRow_ge HE.out (by rfl)).1 (Nat.le_refl _))
        have H43 := Lib.hid ho
        clear ho hg hl HE
        refine wpAny_ready (rs := [6]) (by kernel_rfl) (by simp) ?_
        refine AllReady.cons rfl (fun K hK => ?_) AllReady.nil
        go_simp
        refine hK _ _ ?_
        clear hK K
        refine wpAny_ready (rs := [7]) (by kernel_rfl) (by simp) ?_
        refine AllReady.cons rfl (fun K hK => ?_) AllReady.nil
        rw [if_pos (by rfl)]
        refine wp_store_mid 102 _ _ (by rfl) (W.heap.size + 1) 0 ([.slice (some ⟨g3, 0, none⟩) su.length cap3, .slice (some ⟨g4, 0, none⟩) su.length cap4, .slice none 0 0, .slice none 0 0, .bool true, .int .i64 f]).toArray (by rfl) (by rfl) (HX.out.step HB2.out).b2.there (by rw [info102]; rfl) (by simp [Value.oneCell']) ?_
        simp only [Act.put, List.setIfInBounds_toArray, List.set_cons_zero, List.set_cons_succ]
        refine hK _ _ ?_
        clear hK K
        refine wpAny_done (by kernel_rfl) ?_ _
        have HX2 := Lib.hid ((HX.out.step HB2.out).set2 [.slice (some ⟨g3, 0, none⟩) su.length cap3, .slice (some ⟨g4, 0, none⟩) su.length cap4, .slice none 0 0, .slice none 0 0, .bool true, .int .i64 f] rfl)
        have HS2 := Lib.hid (row_set_far (row_below HRW.out HB2.out) (W.heap.size + 1) 0 [.slice (some ⟨g3, 0, none⟩) su.length cap3, .slice (some ⟨g4, 0, none⟩) su.length cap4, .slice none 0 0, .slice none 0 0, .bool true, .int .i64 f] (row_out HRW.out HLT.out.2))
        have HS3 := Lib.hid (row_set_far (row_base H43.out HB1Y.out) (W.heap.size + 1) 0 [.slice (some ⟨g3, 0, none⟩) su.length cap3, .slice (some ⟨g4, 0, none⟩) su.length cap4, .slice none 0 0, .slice none 0 0, .bool true, .int .i64 f] (row_out (row_base H43.out HB1Y.out) HLT.out.2))
        go_wp2_with fail
        have HFIN := Lib.hid (cr_final HR.out hB HX2.out.below (kept n ks) HBW.out HS2.out HS3.out HH.out)
        exact bodyPost_ret (results_cell1 (p := 4) (ty := 102) rfl _ _ ⟨W.heap.size + 1, 0, none⟩ _ rfl HX2.out.b2.load) rfl ⟨_, _, rfl, HFIN.out.1, HX2.out.below, HFIN.out.2⟩
end Go.Proofs.Ytmaaljfcnnlnpaa
