/-
  The walks of the page laws' helpers.
-/
import Derived.Test.YtmaaljfcnnlnpaaPageWalk3
namespace Go.Proofs.Ytmaaljfcnnlnpaa
open Go.RowKit

set_option maxRecDepth 100000 in
set_option maxHeartbeats 1000000 in
theorem of17_any (p : Pg) (w : World) :
    Calls Try.prog 60 #[.agg #[.int .u32 p.ep, .int .u32 p.nu, .int .i64 p.ki, .bool p.fi, .bool p.la, .string ⟨p.da.toArray⟩]] w fun r w' => r = .returned (.agg #[.int .u32 p.ep, .int .u32 p.nu, .int .i64 p.ki, .bool p.fi, .bool p.la, .string ⟨p.da.toArray⟩]) ∧ Below w.heap.size w w' := by
  go_enter Try.func60, Try.ntmps60
  go_wp2
  refine bodyPost_ret (v := .agg #[.int .u32 p.ep, .int .u32 p.nu, .int .i64 p.ki, .bool p.fi, .bool p.la, .string ⟨p.da.toArray⟩]) (by simp [results, Try.results60, go_sem]) rfl ⟨rfl, ?_⟩
  exact ((Below.refl _ _).alloc (Nat.le_refl _) _).alloc (by simp) _

theorem Buf.cell_of {W : World} {g : Nat} {bs : List UInt8} (h : Buf W g bs) (j : Nat) (x : UInt8) (hj : j < bs.length) (hx : bs.getD j 0 = x) : W.cell? ⟨g, j, none⟩ = some (.int .u8 (x.toNat : Nat)) := by
  rw [h.cell j hj, ← hx, List.getD_eq_getElem?_getD, List.getElem?_eq_getElem hj]; rfl

section
variable {ops : Array Oper} {rest : List Oper} {op : Oper} {a : Act} {w : World} {Q : Exit → Act → World → Prop}
/-- Sixty-four bytes written into a new block: the world behind it is a letter. -/
theorem wpList_new56 (hgd : op.guard = none) (x y : Operand) (ho : op.op = .store 56 x y) (w0 : World) (c : Array Value) (hw : w = w0.alloc (.cells c 56)) (hc : c = (zero64.map bv).toArray) (hx : a.eval x = .pointer (some ⟨w0.heap.size, 0, none⟩))
    (vs : List UInt8) (hy : a.eval y = pgB vs) (hv : vs.length = 64)
    (h : ∀ W', Buf W' w0.heap.size vs → Below w0.heap.size w0 W' → w0.heap.size < W'.heap.size → wpList Try.prog ops Q rest (a.put op.dst undef) W') : wpList Try.prog ops Q (op :: rest) a w := by
  subst hw hc
  have hb := Buf.new w0 zero64 _ 56 rfl zero64_length
  refine wpList_store56 hgd x y ho w0.heap.size hx vs hy zero64 hb hv ?_
  have hs := hb.stored vs hv
  exact h _ hs (below_setCells (Nat.le_refl _) _ _ _ ((Below.refl _ _).alloc (Nat.le_refl _) _)) hs.lt
end

section
variable {ops : Array Oper} {rest : List Oper} {op : Oper} {a : Act} {w : World} {Q : Exit → Act → World → Prop}
theorem wpList_wanted (hw : Region.wanted op (yielded ops a.tmps) = true) (h : op.wp Try.prog a w (wpList Try.prog ops Q rest) Q) : wpList Try.prog ops Q (op :: rest) a w := by
  unfold wpList
  rw [if_pos hw]
  exact .inl h

/-- The same under a guard that is open. -/
theorem wpList_load56g (x : Operand) (ho : op.op = .load 56 x) (hw : Region.wanted op (yielded ops a.tmps) = true) (g : Nat) (hx : a.eval x = .pointer (some ⟨g, 0, none⟩)) (bs : List UInt8) (hb : Buf w g bs)
    (h : wpList Try.prog ops Q rest (a.put op.dst (.agg (bs.map bv).toArray)) w) : wpList Try.prog ops Q (op :: rest) a w :=
  wpList_wanted hw (wp_load_mid 56 x ho g 0 hx (bs.map bv) _ hb.range Try.underlying56 rfl (by rw [info56, List.length_map, hb.len]) h)
theorem wpList_load55g (x : Operand) (ho : op.op = .load 55 x) (hw : Region.wanted op (yielded ops a.tmps) = true) (g : Nat) (hx : a.eval x = .pointer (some ⟨g, 0, none⟩)) (bs : List UInt8) (hb : Buf w g bs)
    (h : wpList Try.prog ops Q rest (a.put op.dst (.agg (bs.map bv).toArray)) w) : wpList Try.prog ops Q (op :: rest) a w :=
  wpList_wanted hw (wp_load_mid 55 x ho g 0 hx (bs.map bv) _ hb.range Try.underlying55 rfl (by rw [info55, List.length_map, hb.len]) h)
theorem wpList_load44g (x : Operand) (ho : op.op = .load 44 x) (hw : Region.wanted op (yielded ops a.tmps) = true) (g o : Nat) (hx : a.eval x = .pointer (some ⟨g, o, none⟩)) (p : Pg) (hb : PgAt w g o p)
    (h : wpList Try.prog ops Q rest (a.put op.dst (.agg #[.int .u32 p.ep, .int .u32 p.nu, .int .i64 p.ki, .bool p.fi, .bool p.la, .string ⟨p.da.toArray⟩])) w) : wpList Try.prog ops Q (op :: rest) a w :=
  wpList_wanted hw (wp_load_mid 44 x ho g o hx (pgC p) _ hb.range Try.underlying44 rfl info44s h)
theorem info42s : (Try.prog.info? 42).map (·.size) = some 6 := by kernel_rfl
theorem wpList_load42g (x : Operand) (ho : op.op = .load 42 x) (hw : Region.wanted op (yielded ops a.tmps) = true) (g o : Nat) (hx : a.eval x = .pointer (some ⟨g, o, none⟩)) (p : Pg) (hb : PgAt w g o p)
    (h : wpList Try.prog ops Q rest (a.put op.dst (.agg #[.int .u32 p.ep, .int .u32 p.nu, .int .i64 p.ki, .bool p.fi, .bool p.la, .string ⟨p.da.toArray⟩])) w) : wpList Try.prog ops Q (op :: rest) a w :=
  wpList_wanted hw (wp_load_mid 42 x ho g o hx (pgC p) _ hb.range Try.underlying42 rfl info42s h)

theorem PgAt.loadAt44 {W : World} {b o : Nat} {p : Pg} (h : PgAt W b o p) : (Instr.loadAt 44 (.pointer (some ⟨b, o, none⟩))).run Try.prog W = .ok (.agg #[.int .u32 p.ep, .int .u32 p.nu, .int .i64 p.ki, .bool p.fi, .bool p.la, .string ⟨p.da.toArray⟩]) W :=
  run_loadAt_mid W b o 44 (pgC p) _ h.range Try.underlying44 rfl info44s
theorem PgAt.loadAt42 {W : World} {b o : Nat} {p : Pg} (h : PgAt W b o p) : (Instr.loadAt 42 (.pointer (some ⟨b, o, none⟩))).run Try.prog W = .ok (.agg #[.int .u32 p.ep, .int .u32 p.nu, .int .i64 p.ki, .bool p.fi, .bool p.la, .string ⟨p.da.toArray⟩]) W :=
  run_loadAt_mid W b o 42 (pgC p) _ h.range Try.underlying42 rfl info42s
theorem run_build56 (w : World) : (Instr.build 56 #[]).run Try.prog w = .ok (.agg (zero64.map bv).toArray) w := by kernel_rfl
/-- The zero value of sixty-four bytes, not written out. -/
theorem wpList_zero56 (ho : op.op = .build 56 #[]) (hw : Region.wanted op (yielded ops a.tmps) = true)
    (h : wpList Try.prog ops Q rest (a.put op.dst (.agg (zero64.map bv).toArray)) w) : wpList Try.prog ops Q (op :: rest) a w := by
  refine wpList_wanted hw ?_
  unfold Oper.wp execOp
  simp [ho, run_build56, Result.andThen]
  exact h
end

theorem read_val (bs : List UInt8) (hl : bs.length = 64) (q : Pg) (e : Nat) (h : readB bs = (q, e)) (w : World) :
    Calls Try.prog 44 #[.agg (bs.map bv).toArray] w fun r w' => r = .returned (.tuple #[.agg #[.int .u32 q.ep, .int .u32 q.nu, .int .i64 q.ki, .bool q.fi, .bool q.la, .string ⟨q.da.toArray⟩], .int .i64 e]) ∧ Below w.heap.size w w' := by
  have := read_any bs hl w
  rwa [h] at this

theorem lay_val (p : Pg) (hl : p.da.length ≤ maxLen) (he : p.ep < 4294967296) (hn : p.nu < 4294967296) (w : World) :
    Calls Try.prog 43 #[.agg #[.int .u32 p.ep, .int .u32 p.nu, .int .i64 p.ki, .bool p.fi, .bool p.la, .string ⟨p.da.toArray⟩]] w fun r w' => r = .returned (.tuple #[pgB (if p.right then layB p else zero64), .int .i64 (if p.right then (0 : Int) else 1)]) ∧ Below w.heap.size w w' := by
  by_cases hr : p.right = true
  · have := lay_yes p hr he hn w
    simpa [hr] using this
  · have hr0 : p.right = false := by simpa using hr
    have := lay_no p hr0 hl w
    simpa [hr0] using this

def pgX : Pg := ⟨0, 0, 2, false, false, [120]⟩

set_option maxRecDepth 100000 in
set_option maxHeartbeats 1000000 in
theorem awake17 (w : World) : Calls Try.prog 59 #[] w fun e w' => e = .returned (.bool true) ∧ Below w.heap.size w w' := by
  have R := Lib.hid (fun W => read_val zero64 rfl noPg 3 (read_3 _ (by unfold Summed; decide +kernel)) W)
  have L := Lib.hid (fun W => lay_yes pgX rfl (by decide) (by decide) W)
  obtain ⟨bx, hbx⟩ : ∃ bx, layB pgX = bx := ⟨_, rfl⟩
  have HX := Lib.hid (show bx.length = 64 from by rw [← hbx]; exact layB_length pgX (by decide))
  have HX12 := Lib.hid (show bx.getD 12 0 = 2 from by rw [← hbx]; rfl)
  rw [hbx] at L
  clear hbx
  go_enter Try.func59, Try.ntmps59
  go_wp2_with fail
  refine (R.out _).mono ?_
  rintro e w1 ⟨rfl, hb⟩
  go_wp2_with fail
  refine (L.out _).mono ?_
  rintro e w2 ⟨rfl, hb2⟩
  have hb3 := hb.trans (((Below.refl _ _).alloc (Nat.le_refl _) _).mono hb.size |>.trans (hb2.mono (by simp; have := hb.size; omega)))
  have HB := Lib.hid hb3
  clear hb hb2 hb3
  go_wp2_with (refine wpList_new56 (by rfl) _ _ (by rfl) _ _ rfl (by rfl) (by rfl) bx (by rfl) HX.out ?_; intro w3 hbuf hw3 hlt3; have HF := Lib.hid hw3; have c12 := hbuf.cell_of 12 2 (by rw [HX.out]; decide) HX12.out; clear hbuf hw3)
  go_ret
  exact ⟨rfl, HB.out.trans (HF.out.mono HB.out.size)⟩
end Go.Proofs.Ytmaaljfcnnlnpaa
