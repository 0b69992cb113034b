/-
  The walks of frag.Pages and frag.Cut.
-/
import Derived.Test.YtmaaljfcnnlnpaaFragWalk1
import Derived.RangeFuncNested
import Derived.Deep.AppendLies
namespace Go.Proofs.Ytmaaljfcnnlnpaa
open Go.RowKit Go.Shelf

/-- How many pieces a record of so many bytes has; 0 of another size. -/
def pagesP (n : Nat) : Nat := if n < 1 ∨ 4096 < n then 0 else cnt n

set_option maxRecDepth 100000 in
theorem pages_any (n : Nat) (hn : n < 1000000000) (w : World) :
    Calls Try.prog 48 #[.int .i64 n] w fun e w' => e = .returned (.int .i64 (pagesP n : Nat)) ∧ w = w' := by
  by_cases h1 : n < 1
  · have hp : pagesP n = 0 := by unfold pagesP; rw [if_pos (.inl h1)]
    rw [hp]
    go_enter Try.func48, Try.ntmps48
    go_wp2
    go_ret
    exact ⟨rfl, rfl⟩
  by_cases h2 : 4096 < n
  · have hp : pagesP n = 0 := by unfold pagesP; rw [if_pos (.inr h2)]
    rw [hp]
    go_enter Try.func48, Try.ntmps48
    go_wp2
    go_ret
    exact ⟨rfl, rfl⟩
  have hp : pagesP n = cnt n := by unfold pagesP; rw [if_neg (by omega)]
  rw [hp]
  go_enter Try.func48, Try.ntmps48
  go_wp2
  go_ret
  exact ⟨ret_int (by unfold cnt; omega), rfl⟩

attribute [local go_sem] Oper.semAt_some

set_option maxRecDepth 100000 in
set_option maxHeartbeats 2000000 in
theorem cut_no (ep : Nat) (s : ByteArray) (hs : s.size < 1000000000) (h : s.size < 1 ∨ 4096 < s.size) (w : World) :
    Calls Try.prog 37 #[.int .u32 ep, .string s] w fun e w' => e = .returned (.tuple #[.slice none 0 0, .int .i64 10]) ∧ Below w.heap.size w w' := by
  have hp : pagesP s.size = 0 := by unfold pagesP; rw [if_pos h]
  have c := fun W => pages_any s.size hs W
  rw [hp] at c
  have C := Lib.hid c
  clear c
  refine (callsIn_wide (n := 5)).1 ?_
  refine callsIn_of_wp_marks Try.func37 rfl trivial ?_ rfl
  simp only [Try.ntmps37, List.size_toArray, List.length_cons, List.length_nil, Nat.reduceAdd, Nat.reduceSub, Array.replicate_succ, Array.replicate_zero, List.push_toArray, List.append_toArray, List.nil_append, List.cons_append]
  gi_wp2_with fail
  refine ⟨trivial, ?_⟩
  refine (callsIn_wide.2 (C.out _)).mono ?_
  rintro e w1 ⟨rfl, rfl⟩
  gi_wp2_with fail
  exact ⟨_, results_tmp2 rfl _ _ _, rfl, ((Below.refl _ _).alloc (Nat.le_refl _) _).alloc (by simp) _⟩

/-- A page's cells. -/
def Pg.cells (p : Pg) : List Value := [.int .u32 (p.ep : Int), .int .u32 (p.nu : Int), .int .i64 p.ki, .bool p.fi, .bool p.la, .string ⟨p.da.toArray⟩]
/-- Pages, one behind the other. -/
def pgCells (l : List Pg) : List Value := l.flatMap Pg.cells
theorem pgCells_length (l : List Pg) : (pgCells l).length = l.length * 6 := by
  induction l with
  | nil => rfl
  | cons p l ih => simp only [pgCells, List.flatMap_cons, List.length_append, List.length_cons] at *; rw [ih]; simp only [Pg.cells, List.length_cons, List.length_nil]; omega
theorem pgCells_snoc (l : List Pg) (p : Pg) : pgCells (l ++ [p]) = pgCells l ++ p.cells := by simp [pgCells]

/-- The pages that have been made when the pieces 'pre' have come. -/
def rowsOf (ep : Nat) (rec : List UInt8) (pre : List Nat) : List Pg := pre.zipIdx.map fun x => ⟨ep, 0, 2, x.2 == 0, x.2 + 1 == cnt rec.length, chunk rec x.1⟩
theorem rowsOf_snoc (ep : Nat) (rec : List UInt8) (pre : List Nat) (x : Nat) : rowsOf ep rec (pre ++ [x]) = rowsOf ep rec pre ++ [⟨ep, 0, 2, pre.length == 0, pre.length + 1 == cnt rec.length, chunk rec x⟩] := by
  simp [rowsOf, List.zipIdx_append]
theorem rowsOf_length (ep : Nat) (rec : List UInt8) (pre : List Nat) : (rowsOf ep rec pre).length = pre.length := by simp [rowsOf]
theorem rowsOf_all (ep : Nat) (rec : List UInt8) : rowsOf ep rec (List.range (cnt rec.length)) = pieces ep rec := by
  apply List.ext_getElem
  · simp [rowsOf, pieces]
  · intro k h1 h2
    simp [rowsOf, pieces, piece]

theorem ownsRow_mono {w : World} {base base' : Nat} {e : TypeId} {size : Nat} {v : Value} {n : Nat} {xs : List Value} (h : w.ownsRow base e size v n xs) (hb : base' ≤ base) : w.ownsRow base' e size v n xs := by
  refine ⟨h.1, ?_⟩
  rcases h.2 with h2 | ⟨g, cap, cur, hv, hg, r⟩
  · exact .inl h2
  · exact .inr ⟨g, cap, cur, hv, by omega, r⟩

theorem ownsRow_form {w : World} {base : Nat} {e : TypeId} {size : Nat} {v : Value} {n : Nat} {xs : List Value} (h : w.ownsRow base e size v n xs) : ∃ a cap, v = .slice a n cap := by
  rcases h.2 with ⟨rfl, rfl⟩ | ⟨g, cap, cur, rfl, _⟩
  · exact ⟨_, _, rfl⟩
  · exact ⟨_, _, rfl⟩

theorem info44 : (Try.prog.info? 44).map (fun i => (i.zero, i.size, i.bytes)) = some (some (.agg #[.int .u32 0, .int .u32 0, .int .i64 0, .bool false, .bool false, .string ⟨#[]⟩]), 6, 40) := by kernel_rfl

/-- What holds between two rounds of Cut's loop. -/
def CutI (B0 n₁ ep : Nat) (rec : List UInt8) (w : World) (pre : List Nat) (W : World) : Prop :=
  ((∃ v, Boxed W (B0 + 2) 35 v ∧ W.ownsRow n₁ 44 6 v pre.length (pgCells (rowsOf ep rec pre)) ∧ True) ∧
    (Boxed W B0 23 (.int .u32 (ep : Int)) ∧ Boxed W (B0 + 1) 3 (.int .i64 (cnt rec.length : Nat)) ∧ BytesAt W (B0 + 3) 0 rec ∧ n₁ ≤ W.heap.size)) ∧ Below w.heap.size w W

theorem cutI_own (B0 n₁ ep : Nat) (rec : List UInt8) (w : World) (hn : w.heap.size ≤ n₁) : OwnFrom n₁ (CutI B0 n₁ ep rec w) := by
  refine OwnFrom.and (OwnFrom.and ?_ ?_) (ownFrom_below (Nat.le_refl _) hn)
  · exact Own.from (holdsRow_own n₁ (B0 + 2) 35 44 6 (fun pre => pre.length) (fun pre => pgCells (rowsOf ep rec pre)) (fun _ _ => True)) _
  · refine Own.from ?_ _
    rintro s X Y row ⟨h1, h2, h3, h4⟩ hg hr
    refine ⟨boxed_own B0 23 (fun _ : List Nat => .int .u32 (ep : Int)) s X Y row h1 hg hr, boxed_own (B0 + 1) 3 (fun _ : List Nat => .int .i64 (cnt rec.length : Nat)) s X Y row h2 hg hr, fun j hj => cell_kept (h3 j hj) hg hr, Nat.le_trans h4 hg.size⟩

theorem chunk_bytes {W : World} {b : Nat} {rec : List UInt8} (h : BytesAt W b 0 rec) (x : Nat) : BytesAt W b (49 * x) (chunk rec x) := by
  intro j hj
  have hl := chunk_length rec x
  unfold plen at hl
  have hj2 : 49 * x + j < rec.length := by omega
  have := h (49 * x + j) hj2
  rw [Nat.zero_add] at this
  rw [this]
  congr 2
  simp [chunk]

theorem kx_append {W w1 : World} {n₁ ob : Nat} {o : Obj} {e : TypeId} {size : Nat} {v : Value} {n : Nat} {xs : List Value} (hs : n₁ ≤ W.heap.size)
    (hrow : W.ownsRow n₁ e size v n xs) (hg : (W.alloc o).grownBy w1 v.ownBlock) (u : Value) : KX n₁ ob W (w1.setCell ⟨ob, 0, none⟩ u) := by
  have h1 := hg.size
  rw [World.size_alloc] at h1
  refine ⟨by rw [World.size_setCell]; omega, fun k hk hne => ?_⟩
  rw [Below.heap_setCell _ _ _ _ (by simpa using hne), hg.block k (by rw [World.size_alloc]; omega) (fun e => by have := (hrow.lt k e.symm).1; omega)]
  exact Below.heap_alloc W o k (by omega)

theorem cutI_step {B ep : Nat} {rec : List UInt8} {w W w1 : World} {pre : List Nat} {x : Nat} {a : Option Addr} {cp g' cap' : Nat} {fi la : Bool} {o : Obj} (hB : w.heap.size = B) (hWs : B + 6 ≤ W.heap.size)
    (hrow : W.ownsRow (B + 6) 44 6 (.slice a pre.length cp) pre.length (pgCells (rowsOf ep rec pre))) (hv1 : Boxed w1 (B + 2) 35 (.slice a pre.length cp))
    (hown' : w1.ownsRow (B + 6) 44 6 (.slice (some ⟨g', 0, none⟩) (pre.length + 1) cap') (pre.length + 1) (pgCells (rowsOf ep rec pre) ++ [.int .u32 ep, .int .u32 0, .int .i64 2, .bool fi, .bool la, .string ⟨(chunk rec x).toArray⟩]))
    (hg : (W.alloc o).grownBy w1 (Value.ownBlock (.slice a pre.length cp)))
    (hv2 : Boxed (w1.setCell ⟨B + 2, 0, none⟩ (.slice (some ⟨g', 0, none⟩) (pre.length + 1) cap')) (B + 2) 35 (.slice (some ⟨g', 0, none⟩) (pre.length + 1) cap'))
    (hb2 : Below B W (w1.setCell ⟨B + 2, 0, none⟩ (.slice (some ⟨g', 0, none⟩) (pre.length + 1) cap')))
    (e0 : Boxed W B 23 (.int .u32 ep)) (e1 : Boxed W (B + 1) 3 (.int .i64 (cnt rec.length : Nat))) (e3 : BytesAt W (B + 3) 0 rec) (hBW : Below w.heap.size w W)
    (hf : fi = (pre.length == 0)) (hl : la = (pre.length + 1 == cnt rec.length)) :
    KX (B + 6) (B + 2) W (w1.setCell ⟨B + 2, 0, none⟩ (.slice (some ⟨g', 0, none⟩) (pre.length + 1) cap')) ∧
    CutI B (B + 6) ep rec w (pre ++ [x]) (w1.setCell ⟨B + 2, 0, none⟩ (.slice (some ⟨g', 0, none⟩) (pre.length + 1) cap')) := by
  have hk : KX (B + 6) (B + 2) W (w1.setCell ⟨B + 2, 0, none⟩ (.slice (some ⟨g', 0, none⟩) (pre.length + 1) cap')) := kx_append hWs hrow hg _
  refine ⟨hk, ⟨⟨_, hv2, ?_, trivial⟩, (hk.2 B (by omega) (by omega)).trans e0, (hk.2 (B + 1) (by omega) (by omega)).trans e1, fun j hj => (hk.cell (p := ⟨B + 3, 0 + j, none⟩) (by show B + 3 < _; omega) (by show B + 3 ≠ _; omega)).trans (e3 j hj), Nat.le_trans hWs hk.1⟩, hBW.trans (by rw [hB]; exact hb2)⟩
  rw [rowsOf_snoc, pgCells_snoc, List.length_append, ← hf, ← hl]
  exact hown'.kept (grownBy_setCell' w1 (B + 2) _) (.inr (hv1.not_row (by decide) hown').symm)

set_option maxRecDepth 100000 in
set_option maxHeartbeats 2000000 in
theorem cut_yes (ep : Nat) (s : ByteArray) (h1 : 1 ≤ s.size) (h2 : s.size ≤ 4096) (w : World) :
    Calls Try.prog 37 #[.int .u32 ep, .string s] w fun e w' => ∃ v, e = .returned (.tuple #[v, .int .i64 0]) ∧ w'.ownsRow w.heap.size 44 6 v (cnt s.size) (pgCells (pieces ep s.data.toList)) ∧ Below w.heap.size w w' := by
  have hp : pagesP s.size = cnt s.size := by unfold pagesP; rw [if_neg (by omega)]
  have hpos := cnt_pos s.size (by omega)
  have hz : ((cnt s.size : Int) == 0) = false := beq_eq_false_iff_ne.2 (by omega)
  have hcl : cnt s.size ≤ 84 := by unfold cnt; omega
  have hsl : s.data.toList.length = s.size := by simp
  have c := fun W => pages_any s.size (by omega) W
  rw [hp] at c
  have C := Lib.hid c
  have HSL := Lib.hid hsl
  clear c hp hsl
  obtain ⟨i0, hi, hz0, hz1, hz2⟩ := info_parts info44
  refine (callsIn_wide (n := 9)).1 ?_
  refine callsIn_of_wp_marks Try.func37 rfl trivial ?_ rfl
  simp only [Try.ntmps37, List.size_toArray, List.length_cons, List.length_nil, Nat.reduceAdd, Nat.reduceSub, Array.replicate_succ, Array.replicate_zero, List.push_toArray, List.append_toArray, List.nil_append, List.cons_append]
  gi_wp2_with fail
  refine ⟨trivial, ?_⟩
  refine (callsIn_wide.2 (C.out _)).mono ?_
  rintro e w1 ⟨rfl, rfl⟩
  have b0 := ((Boxed.new w 23 (.int .u32 ep)).alloc (.cells #[.int .i64 (cnt s.size : Nat)] 3)).alloc (.cells #[.slice none 0 0] 35)
  have b1 := (Boxed.new (w.alloc (.cells #[.int .u32 ep] 23)) 3 (.int .i64 (cnt s.size : Nat))).alloc (.cells #[.slice none 0 0] 35)
  have b2 := Boxed.new ((w.alloc (.cells #[.int .u32 ep] 23)).alloc (.cells #[.int .i64 (cnt s.size : Nat)] 3)) 35 (.slice none 0 0)
  have hbel := (((Below.refl w.heap.size w).alloc (Nat.le_refl _) (.cells #[.int .u32 ep] 23)).alloc (by simp) (.cells #[.int .i64 (cnt s.size : Nat)] 3)).alloc (by rw [World.size_alloc, World.size_alloc]; omega) (.cells #[.slice none 0 0] 35)
  obtain ⟨cap, w4, hconv, hcap, hb4, hsz4, hby, hfz⟩ := run_str_bytes (((w.alloc (.cells #[.int .u32 ep] 23)).alloc (.cells #[.int .i64 (cnt s.size : Nat)] 3)).alloc (.cells #[.slice none 0 0] 35)) s
  simp only [World.size_alloc] at b1 b2 hconv hby hfz hsz4
  have hb4' := hb4.size
  simp only [World.size_alloc] at hb4'
  have b0 : Boxed w4 w.heap.size 23 (.int .u32 ep) := (hb4.block _ (by rw [World.size_alloc, World.size_alloc, World.size_alloc]; omega)).trans b0
  have b1 : Boxed w4 (w.heap.size + 1) 3 (.int .i64 (cnt s.size : Nat)) := (hb4.block _ (by rw [World.size_alloc, World.size_alloc, World.size_alloc]; omega)).trans b1
  have b2 : Boxed w4 (w.heap.size + 2) 35 (.slice none 0 0) := (hb4.block _ (by simp)).trans b2
  have hbel := hbel.trans (hb4.mono (by simp only [World.size_alloc]; omega))
  have B0 := Lib.hid b0
  have B1 := Lib.hid b1
  have B2 := Lib.hid b2
  have BY := Lib.hid hby
  have BEL := Lib.hid hbel
  have HS4 := Lib.hid hsz4
  clear b0 b1 b2 hby hfz hbel hb4 hsz4
  gi_wp2_with fail
  refine ⟨trivial, ?_⟩
  refine (chunk_in _ _ _ _ _).mono ?_
  rintro e w5 ⟨rfl, rfl⟩
  have hs5 : w4.heap.size = w.heap.size + 4 := by have := HS4.out; omega
  have c1 := (Boxed.new w4 25 (.slice (some ⟨w.heap.size + 1 + 1 + 1, 0, none⟩) s.size cap)).alloc (.cells #[.int .i64 49] 3)
  have c2 := Boxed.new (w4.alloc (.cells #[.slice (some ⟨w.heap.size + 1 + 1 + 1, 0, none⟩) s.size cap] 25)) 3 (.int .i64 49)
  simp only [World.size_alloc] at c2
  have d0 := (B0.out.alloc (.cells #[.slice (some ⟨w.heap.size + 1 + 1 + 1, 0, none⟩) s.size cap] 25)).alloc (.cells #[.int .i64 49] 3)
  have d1 := (B1.out.alloc (.cells #[.slice (some ⟨w.heap.size + 1 + 1 + 1, 0, none⟩) s.size cap] 25)).alloc (.cells #[.int .i64 49] 3)
  have d2 := (B2.out.alloc (.cells #[.slice (some ⟨w.heap.size + 1 + 1 + 1, 0, none⟩) s.size cap] 25)).alloc (.cells #[.int .i64 49] 3)
  have d3 : BytesAt ((w4.alloc (.cells #[.slice (some ⟨w.heap.size + 1 + 1 + 1, 0, none⟩) s.size cap] 25)).alloc (.cells #[.int .i64 49] 3)) (w.heap.size + 3) 0 s.data.toList := fun j hj => by
    rw [World.cell?_alloc_lt _ _ _ (by simp; omega), World.cell?_alloc_lt _ _ _ (by simp; omega)]
    exact BY.out j hj
  have hbel := (BEL.out.alloc (by omega) (.cells #[.slice (some ⟨w.heap.size + 1 + 1 + 1, 0, none⟩) s.size cap] 25)).alloc (by simp; omega) (.cells #[.int .i64 49] 3)
  have hs6 : ((w4.alloc (.cells #[.slice (some ⟨w.heap.size + 1 + 1 + 1, 0, none⟩) s.size cap] 25)).alloc (.cells #[.int .i64 49] 3)).heap.size = w.heap.size + 6 := by simp; omega
  rw [hs5] at c1 c2 ⊢
  gi_wp2_with fail
  generalize (w4.alloc (.cells #[.slice (some ⟨w.heap.size + 1 + 1 + 1, 0, none⟩) s.size cap] 25)).alloc (.cells #[.int .i64 49] 3) = w6 at *
  generalize hB : w.heap.size = B at *
  have HB := Lib.hid hB
  clear B0 B1 B2 BY BEL HS4 hs5 hconv hb4' hB b0 b1 b2
  have hwB := HB.out
  refine wpIn_rangeFunc_ownG rfl (by omega) (gf := 101) (lb := #[.pointer (some ⟨B + 4, 0, none⟩), .pointer (some ⟨B + 4 + 1, 0, none⟩)]) rfl trivial (enters_of Try.func101 (by kernel_rfl) rfl)
    (chunk_stops _ (by omega) (B + 4) (B + 4 + 1) (B + 6) (B + 2) (B + 3) s.size cap hcap (by omega) w6 (by omega) (by omega) (by omega) (by omega) (by omega) c1.cell c2.cell)
    KX.trans (fun W l o o' hl _ _ _ => KX.putObj W l o' (by omega)) (Below.refl _ _) (fun _ => rfl)
    (CutI B (B + 6) ep s.data.toList w) (fun _ _ _ => False) (by rw [hs6]; exact cutI_own B (B + 6) ep s.data.toList w (by omega)) (fun _ _ _ _ _ hs _ _ => hs)
    ⟨⟨⟨_, d2, World.ownsRow_nil _ _ _ _, trivial⟩, d0, by rw [HSL.out]; exact d1, d3, by omega⟩, by rw [hwB]; exact hbel⟩
    (fun x => { tmps := #[.int .u32 ep, .string s, .pointer (some ⟨B, 0, none⟩), undef, .slice none 0 0, .int .i64 0, .pointer (some ⟨B + 1, 0, none⟩), .pointer (some ⟨B + 1 + 1, 0, none⟩), .slice (some ⟨B + 3, 49 * x, none⟩) (plen s.size x) (plen s.size x), .string s, .int .i64 s.size, .int .i64 (cnt s.size : Nat), .int .i64 (cnt s.size : Nat), .bool false, .string s, .slice (some ⟨B + 1 + 1 + 1, 0, none⟩) s.size cap, .func (.func 101) #[] #[.pointer (some ⟨B + 4, 0, none⟩), .pointer (some ⟨B + 4 + 1, 0, none⟩)], .slice (some ⟨B + 3, 49 * x, none⟩) (plen s.size x) (plen s.size x), undef, undef, undef, undef, undef, undef, undef, undef, undef, undef, undef, undef, undef, undef, undef, undef], defers := [] }) ?assign ?body ?done ?stop
  case assign =>
    intro l x W K hK
    gi_wp2
    exact hK
  case body =>
    rintro l pre x W ⟨⟨⟨v, hv, hrow, _⟩, e0, e1, e3, hWs⟩, hBW⟩ hlt
    obtain ⟨a, cp, rfl⟩ := ownsRow_form hrow
    have hc := hv.cell
    have he := e0.cell
    rw [HSL.out] at e1
    have hn := e1.cell
    have hfz := hv.frozen
    have hcl2 : (chunk s.data.toList x).length = plen s.size x := by rw [chunk_length, HSL.out]
    have hconv := run_bytes_str (c := plen s.size x) (chunk_bytes e3 x) hcl2.symm
    rw [show 49 * x = 49 * x from rfl] at hconv
    obtain ⟨fi, hfi⟩ : ∃ fi : Bool, ((pre.length : Int) == 0) = fi := ⟨_, rfl⟩
    obtain ⟨la, hla⟩ : ∃ la : Bool, ((pre.length : Int) == (cnt s.size : Int) - 1) = la := ⟨_, rfl⟩
    have HF := Lib.hid (show fi = (pre.length == 0) by rw [← hfi, Bool.eq_iff_iff, beq_iff_eq, beq_iff_eq]; omega)
    have HL := Lib.hid (show la = (pre.length + 1 == cnt s.size) by rw [← hla, Bool.eq_iff_iff, beq_iff_eq, beq_iff_eq]; omega)
    have HR := Lib.hid hrow
    have HV := Lib.hid hv
    have HW := Lib.hid hBW
    have HE := Lib.hid (And.intro e0 (And.intro e1 e3))
    have hbase : B + 6 ≤ (W.alloc (.cells #[.int .u32 ep, .int .u32 0, .int .i64 2, .bool fi, .bool la, .string ⟨(chunk s.data.toList x).toArray⟩] 44)).heap.size := by rw [World.size_alloc]; omega
    have hnews := World.news_of_block (World.alloc_heap_new W (.cells #[.int .u32 ep, .int .u32 0, .int .i64 2, .bool fi, .bool la, .string ⟨(chunk s.data.toList x).toArray⟩] 44))
    have HN := Lib.hid hnews
    have HBa := Lib.hid hbase
    clear hrow hv hBW e0 e1 e3 hcl2 hnews hbase
    gi_wp2_with (gi_at_builtin; refine wpListIn_append_own _ rfl _ _ 35 rfl (B + 6) 44 i0 (.agg #[.int .u32 0, .int .u32 0, .int .i64 0, .bool false, .bool false, .string ⟨#[]⟩]) 6 40 Try.underlying35 hi hz0 hz1 hz2 rfl (by decide) _ _ _ rfl (HR.out.alloc _) ⟨W.heap.size, 0, none⟩ 1 1 [.int .u32 ep, .int .u32 0, .int .i64 2, .bool fi, .bool la, .string ⟨(chunk s.data.toList x).toArray⟩] rfl rfl HN.out (by simp [Value.oneCell']) (by unfold maxLen; omega) (by omega) HBa.out ?_; intro v' w1 hown' hgrow _; obtain ⟨g', cap', rfl⟩ := ownsRow_succ hown'; obtain ⟨hv1, hv2, hr2, hk2, hb2⟩ := HV.out.appended (by decide) (ownsRow_mono HR.out (show B ≤ B + 6 by omega)) (by omega) (by omega) (ownsRow_mono hown' (show B ≤ B + 6 by omega)) hgrow; have hc1 := hv1.cell; have hf1 := hv1.frozen; have HG := Lib.hid (And.intro hown' hgrow); have HV1 := Lib.hid hv1; have HV2 := Lib.hid hv2; have HK2 := Lib.hid hk2; have HB2 := Lib.hid hb2; clear hown' hgrow hv1 hv2 hr2 hk2 hb2)
    have HS := cutI_step (x := x) hwB hWs HR.out HV1.out HG.out.1 HG.out.2 HV2.out HB2.out HE.out.1 (by rw [HSL.out]; exact HE.out.2.1) HE.out.2.2 HW.out HF.out (by rw [HSL.out]; exact HL.out)
    exact ⟨HK2.out.from _, HS.1, HS.2⟩
  case done =>
    rintro D ys W hD rfl ⟨⟨⟨v, hv, hrow, _⟩, e0, e1, e3, hWs⟩, hBW⟩ hK
    have hc := hv.cell
    gi_wp2
    refine ⟨by simp, .inl ⟨_, _, rfl, run_takeDeferred hK, ?_⟩⟩
    have hl : (List.range (cnt s.size)).length = cnt s.size := by simp
    rw [hl, ← HSL.out, rowsOf_all] at hrow
    have hrow2 := ownsRow_mono hrow (show w.heap.size ≤ B + 6 by omega)
    refine ⟨_, results_tmp2 rfl _ _ _, v, rfl, ?_, hBW.trans (belowK_b (w := w) (Nat.le_refl _) W D _ _ (by omega) hK rfl rfl)⟩
    rw [← HSL.out]
    exact ownsRow_putObj hrow2 _ hK rfl
  case stop =>
    rintro D c pre W _ _ h _
    exact h.elim
end Go.Proofs.Ytmaaljfcnnlnpaa
