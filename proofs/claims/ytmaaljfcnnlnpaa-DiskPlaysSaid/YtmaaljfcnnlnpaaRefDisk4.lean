/-
  The document's disk: a sync.
-/
import Derived.Test.YtmaaljfcnnlnpaaRefDisk3
namespace Go.Proofs.Ytmaaljfcnnlnpaa
open Go.RowKit

theorem row_base {W : World} {base base' : Nat} {e : TypeId} {size : Nat} {v : Value} {n : Nat} {xs : List Value} (h : W.ownsRow base e size v n xs) (hb : base' ≤ base) : W.ownsRow base' e size v n xs :=
  ⟨h.1, h.2.imp id fun ⟨g, cap, cur, e1, k1, k⟩ => ⟨g, cap, cur, e1, Nat.le_trans hb k1, k⟩⟩

set_option maxRecDepth 100000 in
set_option maxHeartbeats 8000000 in
theorem rsync {W : World} {B : Nat} {a b c d : Value} {r : Rf} (h : RfAt W B a b c d r) (hB : B ≤ W.heap.size) (hf : -1 ≤ r.fuse ∧ r.fuse ≤ 9223372036854775807) :
    Calls Try.prog 67 #[rfV a b c d r] W fun e w' => RfAns W B a b c d r.sync e w' := by
  have HR := Lib.hid h
  obtain ⟨a1, a3, rfl⟩ := ownsRow_form h.sure
  obtain ⟨b1, b3, rfl⟩ := ownsRow_form h.seen
  obtain ⟨c1, c3, rfl⟩ := ownsRow_form h.at_
  obtain ⟨d1, d3, rfl⟩ := ownsRow_form h.what
  clear h
  obtain ⟨su, se, at_, wh, dn, f⟩ := r
  have HF := Lib.hid hf
  unfold rfV
  dsimp only at hf ⊢
  have FU := Lib.hid (fun X => rfused (a1 := a1) (a2 := su.length) (a3 := a3) (b1 := b1) (b2 := se.length) (b3 := b3) (c1 := c1) (c2 := at_.length) (c3 := c3) (d1 := d1) (d2 := wh.length) (d3 := d3) false f HF.out X)
  clear hf
  cases dn with
  | true =>
    have e : Rf.sync ⟨su, se, at_, wh, true, f⟩ = (⟨su, se, at_, wh, true, f⟩, 7) := if_pos rfl
    rw [e]
    clear e
    go_enter Try.func67, Try.ntmps67
    go_wp2_with fail
    exact bodyPost_ret (results_cell2 (p := 2) (u := 3) (ty := 102) rfl _ _ ⟨W.heap.size + 1, 0, none⟩ _ _ rfl (load102 (alloc2_heap _ _ _) rfl) rfl) rfl ⟨_, _, _, _, rfl, HR.out.below (alloc2_below _ _ _), alloc2_below _ _ _, fun _ h => .inl h⟩
  | false =>
    by_cases hf0 : f = 0
    · subst hf0
      have e : Rf.sync ⟨su, se, at_, wh, false, 0⟩ = (⟨su, se, at_, wh, false, 0⟩, 6) := rfl
      rw [e]
      clear e
      go_enter Try.func67, Try.ntmps67
      go_upto_region 3 with fail
      have HX := Lib.hid (Bx.start W [.slice a1 su.length a3, .slice b1 se.length b3, .slice c1 at_.length c3, .slice d1 wh.length d3, .bool false, .int .i64 0] rfl)
      go_wp2_with fail
      refine (FU.out _).mono ?_
      rintro q w1 ⟨rfl, hb⟩
      have HX := Lib.hid (HX.out.step hb)
      clear hb
      rw [show fuseDn 0 = 0 from rfl]
      go_upto_region 4 with (refine wpList_store102 (e1 := W.heap.size) (cs1 := [.slice a1 su.length a3, .slice b1 se.length b3, .slice c1 at_.length c3, .slice d1 wh.length d3, .bool false, .int .i64 0]) (by rfl) (.tmp 1) (.tmp 11) (by rfl) [.slice a1 su.length a3, .slice b1 se.length b3, .slice c1 at_.length c3, .slice d1 wh.length d3, .bool false, .int .i64 0] ?_ ?_ ?_ ?_ ?_ ?_; exact HX.out.b1; rfl; rfl; rfl; simp [Value.oneCell'])
      have HX := Lib.hid (HX.out.set1 [.slice a1 su.length a3, .slice b1 se.length b3, .slice c1 at_.length c3, .slice d1 wh.length d3, .bool false, .int .i64 0] rfl)
      change Code.wp _ _ _ _ (w1.setCells W.heap.size 0 [.slice a1 su.length a3, .slice b1 se.length b3, .slice c1 at_.length c3, .slice d1 wh.length d3, .bool false, .int .i64 0])
      generalize w1.setCells W.heap.size 0 [.slice a1 su.length a3, .slice b1 se.length b3, .slice c1 at_.length c3, .slice d1 wh.length d3, .bool false, .int .i64 0] = X1 at *
      go_wp2_with (first
        | (refine wpList_load102 (e1 := W.heap.size) (cs1 := [.slice a1 su.length a3, .slice b1 se.length b3, .slice c1 at_.length c3, .slice d1 wh.length d3, .bool false, .int .i64 0]) (by rfl) (.tmp 1) (by rfl) ?_ ?_ ?_; exact HX.out.b1; rfl)
        | (refine wpList_store102 (e1 := W.heap.size + 1) (cs1 := zero6) (by rfl) (.tmp 2) (.tmp 15) (by rfl) [.slice a1 su.length a3, .slice b1 se.length b3, .slice c1 at_.length c3, .slice d1 wh.length d3, .bool false, .int .i64 0] ?_ ?_ ?_ ?_ ?_ ?_; exact HX.out.b2; rfl; rfl; rfl; simp [Value.oneCell']))
      have HX := Lib.hid (HX.out.set2 [.slice a1 su.length a3, .slice b1 se.length b3, .slice c1 at_.length c3, .slice d1 wh.length d3, .bool false, .int .i64 0] rfl)
      exact bodyPost_ret (results_cell2 (p := 2) (u := 3) (ty := 102) rfl _ _ ⟨W.heap.size + 1, 0, none⟩ _ _ rfl HX.out.b2.load rfl) rfl ⟨_, _, _, _, rfl, HR.out.below HX.out.below, HX.out.below, fun _ h => .inl h⟩
    · have e : Rf.sync ⟨su, se, at_, wh, false, f⟩ = (⟨se, se, [], [], false, fuseDn f⟩, 0) := by unfold Rf.sync; rw [if_neg (by simp), if_neg hf0]
      rw [e]
      clear e
      have h0c : (f != 0) = true := by rw [bne_iff_ne]; exact hf0
      rw [h0c] at FU
      clear h0c
      obtain ⟨f2, hf2⟩ : ∃ f2, fuseDn f = f2 := ⟨_, rfl⟩
      rw [hf2] at FU ⊢
      clear hf2
      go_enter Try.func67, Try.ntmps67
      go_upto_region 3 with fail
      have HX := Lib.hid (Bx.start W [.slice a1 su.length a3, .slice b1 se.length b3, .slice c1 at_.length c3, .slice d1 wh.length d3, .bool false, .int .i64 f] rfl)
      go_wp2_with fail
      refine (FU.out _).mono ?_
      rintro q w1 ⟨rfl, hb⟩
      have HX := Lib.hid (HX.out.step hb)
      clear hb FU
      go_upto_region 4 with (refine wpList_store102 (e1 := W.heap.size) (cs1 := [.slice a1 su.length a3, .slice b1 se.length b3, .slice c1 at_.length c3, .slice d1 wh.length d3, .bool false, .int .i64 f]) (by rfl) (.tmp 1) (.tmp 11) (by rfl) [.slice a1 su.length a3, .slice b1 se.length b3, .slice c1 at_.length c3, .slice d1 wh.length d3, .bool false, .int .i64 f2] ?_ ?_ ?_ ?_ ?_ ?_; exact HX.out.b1; rfl; rfl; rfl; simp [Value.oneCell'])
      have HX := Lib.hid (HX.out.set1 [.slice a1 su.length a3, .slice b1 se.length b3, .slice c1 at_.length c3, .slice d1 wh.length d3, .bool false, .int .i64 f2] rfl)
      change Code.wp _ _ _ _ (w1.setCells W.heap.size 0 [.slice a1 su.length a3, .slice b1 se.length b3, .slice c1 at_.length c3, .slice d1 wh.length d3, .bool false, .int .i64 f2])
      generalize w1.setCells W.heap.size 0 [.slice a1 su.length a3, .slice b1 se.length b3, .slice c1 at_.length c3, .slice d1 wh.length d3, .bool false, .int .i64 f2] = X1 at *
      go_upto_region 6 with fail
      obtain ⟨iT, hE99⟩ := el99
      have HE := Lib.hid hE99
      clear hE99
      have HBS := Lib.hid HX.out.below.size
      have HLT := Lib.hid (And.intro HX.out.b1.lt HX.out.b2.lt)
      have HE0 := Lib.hid (no_row X1 W.heap.size HBS.out 55 64)
      have HA1 := Lib.hid (show Below X1.heap.size X1 (X1.alloc (.cells #[] 55)) from (Below.refl _ _).alloc (Nat.le_refl _) _)
      have HSR := Lib.hid (rowSrc_row (row_below HR.out.seen (HX.out.step HA1.out).below) (psC_cell _))
      have HN : Hid (se.length ≤ 1000) := Lib.hid HR.out.few.2.1
      have HN0 : Hid (0 + se.length ≤ 100000) := Lib.hid (by have := HN.out; omega)
      have HBX := Lib.hid (Nat.le_trans HBS.out HA1.out.size)
      have c1' : (X1.alloc (.cells #[] 55)).cell? ⟨W.heap.size, 1, none⟩ = some (.slice b1 se.length b3) := (HX.out.step HA1.out).b1.cell 1 _ rfl
      iterate 10 (first | go_values | go_skip | go_guarded | go_step)
      refine wpList_app_row (t := 99) (e := 55) (size := 64) (bytes := 64) (base := W.heap.size) HE.out (by rfl) (.tmp 16) (.tmp 18) (by rfl) HE0.out HSR.out (by rfl) (by rfl) HN0.out (by decide) HBX.out ?_
      intro g3 cap3 w3 ho hg hl
      simp only [Nat.zero_add] at ho ⊢
      rw [List.nil_append] at ho
      have HX := Lib.hid (HX.out.step (row_grown HA1.out hg (Nat.le_refl _) (Nat.le_refl _)))
      have HRW := Lib.hid ho
      have HG := Lib.hid (show X1.heap.size ≤ g3 from hl.elim (fun e => e ▸ Nat.le_refl _) (fun e => e ▸ HA1.out.size))
      have HNg := Lib.hid (show (Value.slice (some ⟨g3, 0, none⟩) se.length cap3).ownBlock ≠ some W.heap.size from fun e => absurd (Option.some.inj e : g3 = W.heap.size) (by have := HG.out; have := HLT.out.1; omega))
      have c0 := HX.out.b1.cell 0 _ rfl
      have f0 := HX.out.b1.fz 0 (by decide)
      clear ho hg hl c1'
      go_upto_region 7 with fail
      have HX := Lib.hid (HX.out.one 0 (by decide) (.slice (some ⟨g3, 0, none⟩) se.length cap3))
      have HRW := Lib.hid (row_set_far HRW.out W.heap.size 0 [.slice (some ⟨g3, 0, none⟩) se.length cap3] HNg.out)
      clear c0 f0
      change Code.wp _ _ _ _ (w3.setCell ⟨W.heap.size, 0, none⟩ (.slice (some ⟨g3, 0, none⟩) se.length cap3))
      have HRW := Lib.hid (show (w3.setCell ⟨W.heap.size, 0, none⟩ (.slice (some ⟨g3, 0, none⟩) se.length cap3)).ownsRow _ _ _ _ _ _ from HRW.out)
      generalize w3.setCell ⟨W.heap.size, 0, none⟩ (.slice (some ⟨g3, 0, none⟩) se.length cap3) = X4 at *
      have c2' := HX.out.b1.cell 2 _ rfl
      have f2' := HX.out.b1.fz 2 (by decide)
      go_upto_region 8 with fail
      have HX := Lib.hid (HX.out.one 2 (by decide) (.slice none 0 0))
      have HRW := Lib.hid (show (X4.setCell ⟨W.heap.size, 2, none⟩ (.slice none 0 0)).ownsRow _ _ _ _ _ _ from row_set_far HRW.out W.heap.size 2 [.slice none 0 0] HNg.out)
      clear c2' f2'
      generalize X4.setCell ⟨W.heap.size, 2, none⟩ (.slice none 0 0) = X5 at *
      have c3' := HX.out.b1.cell 3 _ rfl
      have f3' := HX.out.b1.fz 3 (by decide)
      go_upto_region 9 with fail
      have HX := Lib.hid (show Bx W (X5.setCell ⟨W.heap.size, 3, none⟩ (.slice none 0 0)) W.heap.size (W.heap.size + 1) [.slice (some ⟨g3, 0, none⟩) se.length cap3, .slice b1 se.length b3, .slice none 0 0, .slice none 0 0, .bool false, .int .i64 f2] zero6 from HX.out.one 3 (by decide) (.slice none 0 0))
      have HRW := Lib.hid (show (X5.setCell ⟨W.heap.size, 3, none⟩ (.slice none 0 0)).ownsRow _ _ _ _ _ _ from row_set_far HRW.out W.heap.size 3 [.slice none 0 0] HNg.out)
      clear c3' f3'
      generalize X5.setCell ⟨W.heap.size, 3, none⟩ (.slice none 0 0) = X6 at *
      go_wp2_with (first
        | (refine wpList_load102 (e1 := W.heap.size) (cs1 := [.slice (some ⟨g3, 0, none⟩) se.length cap3, .slice b1 se.length b3, .slice none 0 0, .slice none 0 0, .bool false, .int .i64 f2]) (by rfl) (.tmp 1) (by rfl) ?_ ?_ ?_; exact HX.out.b1; rfl)
        | (refine wpList_store102 (e1 := W.heap.size + 1) (cs1 := zero6) (by rfl) (.tmp 2) (.tmp 23) (by rfl) [.slice (some ⟨g3, 0, none⟩) se.length cap3, .slice b1 se.length b3, .slice none 0 0, .slice none 0 0, .bool false, .int .i64 f2] ?_ ?_ ?_ ?_ ?_ ?_; exact HX.out.b2; rfl; rfl; rfl; simp [Value.oneCell']))
      have HX := Lib.hid (HX.out.set2 [.slice (some ⟨g3, 0, none⟩) se.length cap3, .slice b1 se.length b3, .slice none 0 0, .slice none 0 0, .bool false, .int .i64 f2] rfl)
      have HRW := Lib.hid (row_set_far HRW.out (W.heap.size + 1) 0 [.slice (some ⟨g3, 0, none⟩) se.length cap3, .slice b1 se.length b3, .slice none 0 0, .slice none 0 0, .bool false, .int .i64 f2] (fun e => absurd (Option.some.inj e : g3 = W.heap.size + 1) (by have := HG.out; have := HLT.out.2; omega)))
      exact bodyPost_ret (results_cell2 (p := 2) (u := 3) (ty := 102) rfl _ _ ⟨W.heap.size + 1, 0, none⟩ _ _ rfl HX.out.b2.load rfl) rfl ⟨_, _, _, _, rfl, ⟨row_base HRW.out hB, row_below HR.out.seen HX.out.below, World.ownsRow_nil _ _ _ _, World.ownsRow_nil _ _ _ _, HR.out.n64, HR.out.n64, fun _ h => (by cases h), HR.out.few.2.1, HR.out.few.2.1, Nat.zero_le _, Nat.zero_le _⟩, HX.out.below, fun k hk => by
        rcases rv4_mem.1 hk with e | e | e | e
        · exact .inr (own_ge e (Nat.le_trans HBS.out HG.out))
        · exact .inl (rv4_mem.2 (.inr (.inl e)))
        · cases e
        · cases e⟩
end Go.Proofs.Ytmaaljfcnnlnpaa
