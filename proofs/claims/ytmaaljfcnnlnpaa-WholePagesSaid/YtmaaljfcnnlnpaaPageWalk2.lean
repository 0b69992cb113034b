/-
  The walk of page.Lay.
-/
import Derived.Test.YtmaaljfcnnlnpaaPageWalk1
import Derived.Test.YtmaaljfcnnlnpaaJoin3
namespace Go.Proofs.Ytmaaljfcnnlnpaa
open Go.RowKit

def zero64 : List UInt8 := List.replicate 64 0
theorem zero64_length : zero64.length = 64 := rfl

/-- The worlds of Lay's walk. -/
structure LY (w W : World) (g1 g2 : Nat) (p : Pg) : Prop where
  below : Below w.heap.size w W
  pg : PgAt W g1 0 p
  res : Buf W g2 zero64
  l1 : g1 < W.heap.size
  ge2 : w.heap.size ≤ g2

theorem LY.step {w W W' : World} {g1 g2 : Nat} {p : Pg} (h : LY w W g1 g2 p) (hb : Below W.heap.size W W') : LY w W' g1 g2 p :=
  ⟨h.below.trans (hb.mono h.below.size), h.pg.below hb h.l1, h.res.step hb, Nat.lt_of_lt_of_le h.l1 hb.size, h.ge2⟩

theorem LY.start (w : World) (p : Pg) (c1 c2 : Array Value) (t1 t2 : TypeId) (h1 : c1 = #[.int .u32 p.ep, .int .u32 p.nu, .int .i64 p.ki, .bool p.fi, .bool p.la, .string ⟨p.da.toArray⟩])
    (h2 : c2 = (zero64.map bv).toArray) : LY w ((w.alloc (.cells c1 t1)).alloc (.cells c2 t2)) w.heap.size (w.heap.size + 1) p := by
  subst h1 h2
  have hp : PgAt (w.alloc (.cells #[.int .u32 p.ep, .int .u32 p.nu, .int .i64 p.ki, .bool p.fi, .bool p.la, .string ⟨p.da.toArray⟩] t1)) w.heap.size 0 p := by
    refine ⟨?_, ?_, ?_, ?_, ?_, ?_⟩ <;> rw [World.cell?_alloc_new] <;> rfl
  have s1 : ∀ (W : World) x, Below W.heap.size W (W.alloc x) := fun W x => (Below.refl _ _).alloc (Nat.le_refl _) x
  have e1 : ∀ x, (w.alloc x).heap.size = w.heap.size + 1 := fun x => by simp
  have b2 := Buf.new (w.alloc (.cells #[.int .u32 p.ep, .int .u32 p.nu, .int .i64 p.ki, .bool p.fi, .bool p.la, .string ⟨p.da.toArray⟩] t1)) zero64 _ t2 rfl zero64_length
  rw [e1] at b2
  exact ⟨(s1 _ _).trans ((s1 _ _).mono (by rw [e1]; omega)), hp.below (s1 _ _) (by rw [e1]; omega), b2, by have := b2.lt; omega, by omega⟩

theorem calls_gate {P : Program} {f : FuncId} {args : Array Value} {Q : Ending → World → Prop} {W : World} (S : World → Prop) (hS : S W) (h : ∀ W', S W' → Calls P f args W' Q) : Calls P f args W Q := h W hS

theorem right_facts (p : Pg) (h : p.right = true) : (p.ki = 1 ∨ p.ki = 2) ∧ 1 ≤ p.da.length ∧ p.da.length ≤ 49 := by
  unfold Pg.right at h
  simp only [Bool.and_eq_true, Bool.or_eq_true, decide_eq_true_eq, beq_iff_eq] at h
  omega

set_option maxRecDepth 100000 in
set_option maxHeartbeats 4000000 in
theorem lay_yes (p : Pg) (hr : p.right = true) (he : p.ep < 4294967296) (hn : p.nu < 4294967296) (w : World) :
    Calls Try.prog 43 #[.agg #[.int .u32 p.ep, .int .u32 p.nu, .int .i64 p.ki, .bool p.fi, .bool p.la, .string ⟨p.da.toArray⟩]] w fun r w' => r = .returned (.tuple #[pgB (layB p), .int .i64 0]) ∧ Below w.heap.size w w' := by
  obtain ⟨hk, hd1, hd⟩ := right_facts p hr
  have L0 := Lib.hid (fun c2 h2 => LY.start w p _ c2 44 56 rfl h2)
  have R := Lib.hid (fun W => right_any p (by unfold maxLen; omega) W)
  rw [hr] at R
  have D := Lib.hid (fun W => laid_any p hd he hn (by omega) W)
  go_enter Try.func43, Try.ntmps43
  go_wp2_with fail
  refine calls_gate (fun W => LY w W w.heap.size (w.heap.size + 1) p) (L0.out _ (by rfl)) ?_
  clear L0
  intro W1 hL
  generalize w.heap.size + 1 = g2 at *
  refine (R.out _).mono ?_
  rintro e W2 ⟨rfl, hb⟩
  have hL2 := hL.step hb
  obtain ⟨q0, q1, q2, q3, q4, q5⟩ := hL2.pg
  have HL := Lib.hid hL2
  clear hL hL2 hb
  simp only [Nat.zero_add] at q0 q1 q2 q3 q4 q5
  go_wp2_with fail
  refine (D.out _).mono ?_
  rintro e W3 ⟨rfl, hb⟩
  have hL3 := HL.out.step hb
  have HB2 := Lib.hid hL3.res
  have HLL := Lib.hid (layB_length p hd)
  have HLB := Lib.hid ((hL3.res.stored (layB p) HLL.out).loadVar56)
  have HR := Lib.hid (show Below w.heap.size w (W3.setCells g2 0 ((layB p).map bv)) from below_setCells hL3.ge2 _ _ _ hL3.below)
  clear hL3 hb q0 q1 q2 q3 q4 q5
  go_wp2_with (refine wpList_store56 (by rfl) _ _ (by rfl) g2 (by rfl) (layB p) (by rfl) _ HB2.out HLL.out ?_)
  exact bodyPost_ret (results_cell2 (p := 2) (u := 3) (ty := 56) rfl _ _ ⟨g2, 0, none⟩ _ _ rfl HLB.out rfl) rfl ⟨rfl, HR.out⟩

set_option maxRecDepth 100000 in
set_option maxHeartbeats 4000000 in
theorem lay_no (p : Pg) (hr : p.right = false) (hl : p.da.length ≤ maxLen) (w : World) :
    Calls Try.prog 43 #[.agg #[.int .u32 p.ep, .int .u32 p.nu, .int .i64 p.ki, .bool p.fi, .bool p.la, .string ⟨p.da.toArray⟩]] w fun r w' => r = .returned (.tuple #[pgB zero64, .int .i64 1]) ∧ Below w.heap.size w w' := by
  have L0 := Lib.hid (fun c2 h2 => LY.start w p _ c2 44 56 rfl h2)
  have R := Lib.hid (fun W => right_any p hl W)
  rw [hr] at R
  go_enter Try.func43, Try.ntmps43
  go_wp2_with fail
  refine calls_gate (fun W => LY w W w.heap.size (w.heap.size + 1) p) (L0.out _ (by rfl)) ?_
  clear L0
  intro W1 hL
  generalize w.heap.size + 1 = g2 at *
  refine (R.out _).mono ?_
  rintro e W2 ⟨rfl, hb⟩
  have hL3 := hL.step hb
  have HB2 := Lib.hid hL3.res
  have HLB := Lib.hid ((hL3.res.stored zero64 rfl).loadVar56)
  have HR := Lib.hid (show Below w.heap.size w (W2.setCells g2 0 (zero64.map bv)) from below_setCells hL3.ge2 _ _ _ hL3.below)
  clear hL hb hL3
  go_wp2_with (refine wpList_store56 (by rfl) _ _ (by rfl) g2 (by rfl) zero64 (by rfl) _ HB2.out rfl ?_)
  exact bodyPost_ret (results_cell2 (p := 2) (u := 3) (ty := 56) rfl _ _ ⟨g2, 0, none⟩ _ _ rfl HLB.out rfl) rfl ⟨rfl, HR.out⟩
end Go.Proofs.Ytmaaljfcnnlnpaa
