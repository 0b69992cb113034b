/-
  The walk of the law FragPlays.
-/
import Derived.Test.YtmaaljfcnnlnpaaFragWalk4
import Derived.Test.YtmaaljfcnnlnpaaWs
namespace Go.Proofs.Ytmaaljfcnnlnpaa
open Go.RowKit

/-- A page that lies in memory. -/
structure PgAt (w : World) (b o : Nat) (p : Pg) : Prop where
  c0 : w.cell? ⟨b, o, none⟩ = some (.int .u32 (p.ep : Int))
  c1 : w.cell? ⟨b, o + 1, none⟩ = some (.int .u32 (p.nu : Int))
  c2 : w.cell? ⟨b, o + 2, none⟩ = some (.int .i64 p.ki)
  c3 : w.cell? ⟨b, o + 3, none⟩ = some (.bool p.fi)
  c4 : w.cell? ⟨b, o + 4, none⟩ = some (.bool p.la)
  c5 : w.cell? ⟨b, o + 5, none⟩ = some (.string ⟨p.da.toArray⟩)

theorem PgAt.below {W W' : World} {b o : Nat} {p : Pg} (h : PgAt W b o p) (hb : Below W.heap.size W W') (hlt : b < W.heap.size) : PgAt W' b o p :=
  ⟨(hb.cell (p := ⟨b, o, none⟩) hlt).trans h.c0, (hb.cell (p := ⟨b, o + 1, none⟩) hlt).trans h.c1, (hb.cell (p := ⟨b, o + 2, none⟩) hlt).trans h.c2,
   (hb.cell (p := ⟨b, o + 3, none⟩) hlt).trans h.c3, (hb.cell (p := ⟨b, o + 4, none⟩) hlt).trans h.c4, (hb.cell (p := ⟨b, o + 5, none⟩) hlt).trans h.c5⟩

theorem pgCells_get : ∀ (l : List Pg) (k j : Nat) (hk : k < l.length), j < 6 → (pgCells l)[k * 6 + j]? = (l[k].cells)[j]?
  | [], k, j, hk, _ => by simp at hk
  | p :: l, 0, j, _, hj => by
    show (p.cells ++ pgCells l)[0 * 6 + j]? = _
    rw [Nat.zero_mul, Nat.zero_add, List.getElem?_append_left (by simpa [Pg.cells] using hj)]
    rfl
  | p :: l, k + 1, j, hk, hj => by
    show (p.cells ++ pgCells l)[(k + 1) * 6 + j]? = _
    have hl : p.cells.length = 6 := rfl
    rw [List.getElem?_append_right (by omega), hl, show (k + 1) * 6 + j - 6 = k * 6 + j by omega]
    exact pgCells_get l k j (by simpa using hk) hj

theorem own_pg {w : World} {base : Nat} {e : TypeId} {g n cap : Nat} {l : List Pg} (h : w.ownsRow base e 6 (.slice (some ⟨g, 0, none⟩) n cap) n (pgCells l)) (k : Nat) (hk : k < l.length) : PgAt w g (k * 6) l[k] := by
  have c := fun j (hj : j < 6) u (hu : (l[k].cells)[j]? = some u) => own_cell h (k * 6 + j) u ((pgCells_get l k j hk hj).trans hu)
  exact ⟨c 0 (by decide) _ rfl, c 1 (by decide) _ rfl, c 2 (by decide) _ rfl, c 3 (by decide) _ rfl, c 4 (by decide) _ rfl, c 5 (by decide) _ rfl⟩

theorem plain_pg (p : Pg) (w : World) :
    Calls Try.prog 39 #[.agg #[.int .u32 p.ep, .int .u32 p.nu, .int .i64 p.ki, .bool p.fi, .bool p.la, .string ⟨p.da.toArray⟩]] w fun r w' => r = .returned (.agg #[.int .u32 p.ep, .int .u32 p.nu, .int .i64 p.ki, .bool p.fi, .bool p.la, .string ⟨p.da.toArray⟩]) ∧ Below w.heap.size w w' :=
  plain_any p.ep p.nu p.ki p.fi p.la ⟨p.da.toArray⟩ w

/-- What the round's region wants of its worlds. -/
structure RgP (w W : World) (g1 g2 o : Nat) (p : Pg) : Prop where
  below : Below w.heap.size w W
  p1 : PgAt W g1 o p
  p2 : PgAt W g2 o p
  lt1 : g1 < W.heap.size
  lt2 : g2 < W.heap.size
theorem RgP.step {w W W' : World} {g1 g2 o : Nat} {p : Pg} (h : RgP w W g1 g2 o p) (hw : Below W.heap.size W W') : RgP w W' g1 g2 o p :=
  ⟨h.below.trans (hw.mono h.below.size), h.p1.below hw h.lt1, h.p2.below hw h.lt2, Nat.lt_of_lt_of_le h.lt1 hw.size, Nat.lt_of_lt_of_le h.lt2 hw.size⟩

set_option maxRecDepth 100000 in
set_option maxHeartbeats 2000000 in
theorem fragPlays_walk (ep : Nat) (s : ByteArray) (hs : s.size ≤ maxLen) (w : World) :
    Calls Try.prog 8 #[.int .u32 ep, .string s] w fun e w' => e = .returned (.bool true) ∧ Below w.heap.size w w' := by
  have hb := Below.refl w.heap.size w
  unfold maxLen at hs
  by_cases h1 : s.size < 1
  · go_enter Try.func8, Try.ntmps8
    go_wp2_with fail
    refine (below_rel hb (awake18 _)).mono ?_; clear hb; rintro e w1 ⟨rfl, hb⟩
    go_wp2_with fail
    refine (below_rel hb (awake18 _)).mono ?_; clear hb; rintro e w1 ⟨rfl, hb⟩
    go_wp2_with fail
    go_ret
    exact ⟨rfl, hb⟩
  by_cases h2 : 4096 < s.size
  · go_enter Try.func8, Try.ntmps8
    go_wp2_with fail
    refine (below_rel hb (awake18 _)).mono ?_; clear hb; rintro e w1 ⟨rfl, hb⟩
    go_wp2_with fail
    refine (below_rel hb (awake18 _)).mono ?_; clear hb; rintro e w1 ⟨rfl, hb⟩
    go_wp2_with fail
    go_ret
    exact ⟨rfl, hb⟩
  have hcl : cnt s.size ≤ 84 := by unfold cnt; omega
  have hcp : 0 < cnt s.size := by unfold cnt; omega
  have HPL := Lib.hid (show (pieces ep s.data.toList).length = cnt s.size by rw [pieces_length]; simp)
  go_enter Try.func8, Try.ntmps8
  go_wp2_with fail
  refine (below_rel hb (awake18 _)).mono ?_; clear hb; rintro e w1 ⟨rfl, hb⟩
  go_wp2_with fail
  refine (cut_yes ep s (by omega) (by omega) _).mono ?_
  rintro e w2 ⟨v, rfl, hr1, hb2⟩
  obtain ⟨g1, cap1, rfl, hg1, hl1⟩ := hr1.form hcp
  have hb := hb.trans (hb2.mono hb.size)
  clear hb2
  go_wp2_with fail
  refine (refcut_any ep s (by omega) _).mono ?_
  rintro e w3 ⟨v, rfl, hr2, hb2⟩
  obtain ⟨g2, cap2, rfl, hg2, hl2⟩ := hr2.form hcp
  have hb := hb.trans (hb2.mono hb.size)
  have hP : ∀ k (hk : k < (pieces ep s.data.toList).length), RgP w w3 g1 g2 (k * 6) (pieces ep s.data.toList)[k] := fun k hk =>
    ⟨hb, (own_pg hr1 k hk).below hb2 hl1, own_pg hr2 k hk, Nat.lt_of_lt_of_le hl1 hb2.size, hl2⟩
  have HP := Lib.hid hP
  have HB := Lib.hid hb
  clear hP hr1 hr2 hb hb2 hg1 hg2
  go_wp2_with fail
  go_loopw [4, 8, 31, 32, 33, 34, 35, 36, 37, 38, 39, 40, 41, 42, 43, 44, 45, 46, 47, 48, 49, 50, 51, 52, 53] (fun _ a8 _ _ _ _ _ _ _ _ _ _ _ _ _ _ _ _ _ _ _ _ _ _ _ wr => ∃ k : Nat, k ≤ cnt s.size ∧ a8 = .int .i64 k ∧ Below w3.heap.size w3 wr) (fun _ a8 _ _ _ _ _ _ _ _ _ _ _ _ _ _ _ _ _ _ _ _ _ _ _ _ => cnt s.size - (intOf a8).toNat)
  case atStart => exact ⟨0, Nat.zero_le _, rfl, Below.refl _ _⟩
  case round =>
    obtain ⟨k, hk, rfl, hW⟩ := hrel
    by_cases hlt : k < cnt s.size
    · have HW := Lib.hid hW
      have R0 := ((HP.out k (by rw [HPL.out]; exact hlt)).step hW)
      clear hW
      generalize (pieces ep s.data.toList)[k]'(by rw [HPL.out]; exact hlt) = p at *
      have hneq : ∀ W : World, (binOp .neq 42 (.agg #[.int .u32 p.ep, .int .u32 p.nu, .int .i64 p.ki, .bool p.fi, .bool p.la, .string ⟨p.da.toArray⟩]) (.agg #[.int .u32 p.ep, .int .u32 p.nu, .int .i64 p.ki, .bool p.fi, .bool p.la, .string ⟨p.da.toArray⟩])).run Try.prog W = .ok (.bool false) W := by
        intro W
        simp [go_sem]
      have R : RgP w wr.drew g1 g2 (k * 6) p := R0.step (Below.refl _ _).drew
      have HR := Lib.hid R
      clear R R0
      have x0 : ∀ x : WS (fun W => RgP w W g1 g2 (k * 6) p ∧ Below w3.heap.size w3 W), x.w.cell? ⟨g1, k * 6, none⟩ = some (.int .u32 p.ep) := fun x => x.ok.1.p1.c0
      have x1 : ∀ x : WS (fun W => RgP w W g1 g2 (k * 6) p ∧ Below w3.heap.size w3 W), x.w.cell? ⟨g1, k * 6 + 1, none⟩ = some (.int .u32 p.nu) := fun x => x.ok.1.p1.c1
      have x2 : ∀ x : WS (fun W => RgP w W g1 g2 (k * 6) p ∧ Below w3.heap.size w3 W), x.w.cell? ⟨g1, k * 6 + 2, none⟩ = some (.int .i64 p.ki) := fun x => x.ok.1.p1.c2
      have x3 : ∀ x : WS (fun W => RgP w W g1 g2 (k * 6) p ∧ Below w3.heap.size w3 W), x.w.cell? ⟨g1, k * 6 + 3, none⟩ = some (.bool p.fi) := fun x => x.ok.1.p1.c3
      have x4 : ∀ x : WS (fun W => RgP w W g1 g2 (k * 6) p ∧ Below w3.heap.size w3 W), x.w.cell? ⟨g1, k * 6 + 4, none⟩ = some (.bool p.la) := fun x => x.ok.1.p1.c4
      have x5 : ∀ x : WS (fun W => RgP w W g1 g2 (k * 6) p ∧ Below w3.heap.size w3 W), x.w.cell? ⟨g1, k * 6 + 5, none⟩ = some (.string ⟨p.da.toArray⟩) := fun x => x.ok.1.p1.c5
      have y0 : ∀ x : WS (fun W => RgP w W g1 g2 (k * 6) p ∧ Below w3.heap.size w3 W), x.w.cell? ⟨g2, k * 6, none⟩ = some (.int .u32 p.ep) := fun x => x.ok.1.p2.c0
      have y1 : ∀ x : WS (fun W => RgP w W g1 g2 (k * 6) p ∧ Below w3.heap.size w3 W), x.w.cell? ⟨g2, k * 6 + 1, none⟩ = some (.int .u32 p.nu) := fun x => x.ok.1.p2.c1
      have y2 : ∀ x : WS (fun W => RgP w W g1 g2 (k * 6) p ∧ Below w3.heap.size w3 W), x.w.cell? ⟨g2, k * 6 + 2, none⟩ = some (.int .i64 p.ki) := fun x => x.ok.1.p2.c2
      have y3 : ∀ x : WS (fun W => RgP w W g1 g2 (k * 6) p ∧ Below w3.heap.size w3 W), x.w.cell? ⟨g2, k * 6 + 3, none⟩ = some (.bool p.fi) := fun x => x.ok.1.p2.c3
      have y4 : ∀ x : WS (fun W => RgP w W g1 g2 (k * 6) p ∧ Below w3.heap.size w3 W), x.w.cell? ⟨g2, k * 6 + 4, none⟩ = some (.bool p.la) := fun x => x.ok.1.p2.c4
      have y5 : ∀ x : WS (fun W => RgP w W g1 g2 (k * 6) p ∧ Below w3.heap.size w3 W), x.w.cell? ⟨g2, k * 6 + 5, none⟩ = some (.string ⟨p.da.toArray⟩) := fun x => x.ok.1.p2.c5
      go_wp2_with fail
      refine wp_region_ws (fun W => RgP w W g1 g2 (k * 6) p ∧ Below w3.heap.size w3 W) (by kernel_rfl) (by kernel_rfl) ⟨HR.out, HW.out.drew⟩ ?_
      haveI : Nonempty (WS (fun W => RgP w W g1 g2 (k * 6) p ∧ Below w3.heap.size w3 W)) := ⟨⟨wr.drew, HR.out, HW.out.drew⟩⟩
      repeat (go_big_quiet_step ((go_at_call 39; exact ws_call (fun W W' h hb => ⟨h.1.step hb, h.2.trans (hb.mono h.2.size)⟩) (plain_pg p _))))
      refine wpQuiet_nil ?_
      rintro _ ⟨⟨W, hW⟩, rfl⟩
      clear x0 x1 x2 x3 x4 x5 y0 y1 y2 y3 y4 y5
      go_wp2_with fail
      refine ⟨⟨k + 1, by omega, by simp, hW.2⟩, ?_⟩
      simp only [intOf]; omega
    · have hke : k = cnt s.size := by omega
      subst hke
      go_wp2_with fail
      go_ret
      exact ⟨rfl, HB.out.trans (hW.mono HB.out.size)⟩
end Go.Proofs.Ytmaaljfcnnlnpaa
