/-
  The walk of page.Read.
-/
import Derived.Test.YtmaaljfcnnlnpaaPageWalk2
import Derived.Test.YtmaaljfcnnlnpaaPageTheory
import Derived.Test.YtmaaljfcnnlnpaaPageEq
import Derived.Deep.CutRange
namespace Go.Proofs.Ytmaaljfcnnlnpaa
open Go.RowKit
attribute [local go_sem ↓] Go.wp_at_zero Go.wp_at_succ

/-- The worlds of Read's walk. -/
structure RD (w W : World) (g1 g2 : Nat) (bs : List UInt8) : Prop where
  below : Below w.heap.size w W
  buf : Buf W g1 bs
  res : PgAt W g2 0 ⟨0, 0, 0, false, false, []⟩
  froz : ∀ i, W.frozen? ⟨g2, i, none⟩ = false
  l2 : g2 < W.heap.size
  ge1 : w.heap.size ≤ g1
  ge2 : w.heap.size ≤ g2

theorem RD.step {w W W' : World} {g1 g2 : Nat} {bs : List UInt8} (h : RD w W g1 g2 bs) (hb : Below W.heap.size W W') : RD w W' g1 g2 bs :=
  ⟨h.below.trans (hb.mono h.below.size), h.buf.step hb, h.res.below hb h.l2, fun i => (hb.frozen (p := ⟨g2, i, none⟩) h.l2).trans (h.froz i), Nat.lt_of_lt_of_le h.l2 hb.size, h.ge1, h.ge2⟩

theorem RD.start (w : World) (bs : List UInt8) (hl : bs.length = 64) (t1 t2 : TypeId) :
    RD w ((w.alloc (.cells (bs.map bv).toArray t1)).alloc (.cells #[.int .u32 0, .int .u32 0, .int .i64 0, .bool false, .bool false, .string ⟨#[]⟩] t2)) w.heap.size (w.heap.size + 1) bs := by
  have s1 : ∀ (W : World) x, Below W.heap.size W (W.alloc x) := fun W x => (Below.refl _ _).alloc (Nat.le_refl _) x
  have e1 : ∀ x, (w.alloc x).heap.size = w.heap.size + 1 := fun x => by simp
  have b1 := Buf.new w bs _ t1 rfl hl
  have hp : PgAt ((w.alloc (.cells (bs.map bv).toArray t1)).alloc (.cells #[.int .u32 0, .int .u32 0, .int .i64 0, .bool false, .bool false, .string ⟨#[]⟩] t2)) (w.alloc (.cells (bs.map bv).toArray t1)).heap.size 0 ⟨0, 0, 0, false, false, []⟩ := by
    refine ⟨?_, ?_, ?_, ?_, ?_, ?_⟩ <;> rw [World.cell?_alloc_new] <;> rfl
  have hf : ∀ i, ((w.alloc (.cells (bs.map bv).toArray t1)).alloc (.cells #[.int .u32 0, .int .u32 0, .int .i64 0, .bool false, .bool false, .string ⟨#[]⟩] t2)).frozen? ⟨(w.alloc (.cells (bs.map bv).toArray t1)).heap.size, i, none⟩ = false := fun i => World.frozen?_alloc_new _ _ _ _
  rw [e1] at hp hf
  exact ⟨(s1 _ _).trans ((s1 _ _).mono (by rw [e1]; omega)), b1.alloc _, hp, hf, by simp, by omega, by omega⟩

/-- .. with a page read. -/
structure RE (w W : World) (g1 g2 g3 : Nat) (bs : List UInt8) (p : Pg) : Prop where
  rd : RD w W g1 g2 bs
  pg : PgAt W g3 0 p
  lt : g3 < W.heap.size

theorem RE.step {w W W' : World} {g1 g2 g3 : Nat} {bs : List UInt8} {p : Pg} (h : RE w W g1 g2 g3 bs p) (hb : Below W.heap.size W W') : RE w W' g1 g2 g3 bs p :=
  ⟨h.rd.step hb, h.pg.below hb h.lt, Nat.lt_of_lt_of_le h.lt hb.size⟩

theorem RE.alloc {w W : World} {g1 g2 : Nat} {bs : List UInt8} (h : RD w W g1 g2 bs) (p : Pg) (c : Array Value) (t : TypeId) (hc : c = #[.int .u32 p.ep, .int .u32 p.nu, .int .i64 p.ki, .bool p.fi, .bool p.la, .string ⟨p.da.toArray⟩]) :
    RE w (W.alloc (.cells c t)) g1 g2 W.heap.size bs p := by
  subst hc
  refine ⟨h.step ((Below.refl _ _).alloc (Nat.le_refl _) _), ?_, by simp⟩
  refine ⟨?_, ?_, ?_, ?_, ?_, ?_⟩ <;> rw [World.cell?_alloc_new] <;> rfl

/-- A page's cells. -/
def pgC (p : Pg) : List Value := [.int .u32 p.ep, .int .u32 p.nu, .int .i64 p.ki, .bool p.fi, .bool p.la, .string ⟨p.da.toArray⟩]

theorem PgAt.range {W : World} {b o : Nat} {p : Pg} (h : PgAt W b o p) : W.rangeAt b o (pgC p) := by
  intro j v hv
  have hj : j < 6 := (List.getElem?_eq_some_iff.1 hv).1
  have : j = 0 ∨ j = 1 ∨ j = 2 ∨ j = 3 ∨ j = 4 ∨ j = 5 := by omega
  rcases this with rfl | rfl | rfl | rfl | rfl | rfl <;> (obtain rfl : _ = v := Option.some.inj hv)
  · exact h.c0
  · exact h.c1
  · exact h.c2
  · exact h.c3
  · exact h.c4
  · exact h.c5

theorem PgAt.of_range {W : World} {b o : Nat} {p : Pg} (h : W.rangeAt b o (pgC p)) : PgAt W b o p :=
  ⟨h 0 _ rfl, h 1 _ rfl, h 2 _ rfl, h 3 _ rfl, h 4 _ rfl, h 5 _ rfl⟩

theorem info44s : (Try.prog.info? 44).map (·.size) = some 6 := by kernel_rfl

set_option maxRecDepth 100000 in
theorem PgAt.loadVar44 {W : World} {b o : Nat} {p : Pg} (h : PgAt W b o p) : (loadVar 44 ⟨b, o, none⟩).run Try.prog W = .ok (.agg #[.int .u32 p.ep, .int .u32 p.nu, .int .i64 p.ki, .bool p.fi, .bool p.la, .string ⟨p.da.toArray⟩]) W :=
  run_loadVar_mid W b o 44 (pgC p) _ h.range Try.underlying44 rfl info44s

theorem PgAt.there {W : World} {b o : Nat} {p : Pg} (h : PgAt W b o p) (hf : ∀ i, W.frozen? ⟨b, i, none⟩ = false) : W.there b o 6 := fun j hj =>
  ⟨h.range.isSome j (by simpa [pgC] using hj), hf _⟩

/-- A page written over one. -/
theorem PgAt.set {W : World} {b o : Nat} {p : Pg} (h : PgAt W b o p) (hf : ∀ i, W.frozen? ⟨b, i, none⟩ = false) (p' : Pg) : PgAt (W.setCells b o (pgC p')) b o p' :=
  .of_range (World.rangeAt_setCells_same W b o (pgC p') (fun j hj => ⟨h.range.isSome j hj, hf _⟩))

section
variable {ops : Array Oper} {rest : List Oper} {op : Oper} {a : Act} {w : World} {Q : Exit → Act → World → Prop}
theorem wpList_store44 (hgd : op.guard = none) (x y : Operand) (ho : op.op = .store 44 x y) (g o : Nat) (hx : a.eval x = .pointer (some ⟨g, o, none⟩)) (p' : Pg)
    (hy : a.eval y = .agg #[.int .u32 p'.ep, .int .u32 p'.nu, .int .i64 p'.ki, .bool p'.fi, .bool p'.la, .string ⟨p'.da.toArray⟩]) (p : Pg) (hb : PgAt w g o p) (hf : ∀ i, w.frozen? ⟨g, i, none⟩ = false)
    (h : wpList Try.prog ops Q rest (a.put op.dst undef) (w.setCells g o (pgC p'))) : wpList Try.prog ops Q (op :: rest) a w :=
  wpList_store_mid hgd 44 x y ho g o #[.int .u32 p'.ep, .int .u32 p'.nu, .int .i64 p'.ki, .bool p'.fi, .bool p'.la, .string ⟨p'.da.toArray⟩] hx hy (hb.there hf) info44s (by simp [Value.oneCell']) h
theorem wpList_load44 (hgd : op.guard = none) (x : Operand) (ho : op.op = .load 44 x) (g o : Nat) (hx : a.eval x = .pointer (some ⟨g, o, none⟩)) (p : Pg) (hb : PgAt w g o p)
    (h : wpList Try.prog ops Q rest (a.put op.dst (.agg #[.int .u32 p.ep, .int .u32 p.nu, .int .i64 p.ki, .bool p.fi, .bool p.la, .string ⟨p.da.toArray⟩])) w) : wpList Try.prog ops Q (op :: rest) a w :=
  wpList_load_mid hgd 44 x ho g o hx (pgC p) _ hb.range Try.underlying44 rfl info44s h
end

/-- 's[lo:]' of a string. -/
theorem run_str_from (s : ByteArray) (lo : Int) (h0 : 0 ≤ lo) (h1 : lo ≤ s.size) (W : World) :
    (Instr.slice 9 (.string s) (some (.int .i64 lo)) none none).run Try.prog W = .ok (.string (s.extract lo.toNat s.size)) W := by
  have e2 : 0 ≤ lo ∧ lo ≤ (s.size : Int) := ⟨h0, h1⟩
  simp [Instr.slice, run_underlying Try.underlying9, Instr.sliceBounds, Instr.sliceBound, asIntOf, e2]

theorem wrap_small (n : Nat) (h : n < 100000) : IntKind.i64.wrap (n : Int) = n := by
  simp [IntKind.wrap, IntKind.signed, IntKind.bits]; omega
theorem u8_and_nat : ∀ (a b : Nat), a < 256 → b < 3 → bits BinOp.and IntKind.u8 (a : Int) (b : Int) = ((a &&& b : Nat) : Int) := by
  intro a b ha hb
  have h : ∀ (a : Fin 256) (b : Fin 3), bits BinOp.and IntKind.u8 ((a : Nat) : Int) ((b : Nat) : Int) = (((a : Nat) &&& (b : Nat) : Nat) : Int) := by decide +kernel
  exact h ⟨a, ha⟩ ⟨b, hb⟩

theorem extract_mid (bs : List UInt8) (a n : Nat) : (ByteArray.mk bs.toArray).extract a (a + n) = ⟨((bs.drop a).take n).toArray⟩ := by
  apply ByteArray.ext
  apply Array.ext'
  simp

theorem extract_drop (bs : List UInt8) (n : Nat) : (ByteArray.mk bs.toArray).extract n (ByteArray.mk bs.toArray).size = ⟨(bs.drop n).toArray⟩ := by
  apply ByteArray.ext
  apply Array.ext'
  simp [ByteArray.size]
  exact List.take_of_length_le (by simp)

set_option maxRecDepth 100000 in
set_option maxHeartbeats 4000000 in
theorem read_any (bs : List UInt8) (hl : bs.length = 64) (w : World) :
    Calls Try.prog 44 #[.agg (bs.map bv).toArray] w fun r w' => r = .returned (.tuple #[.agg #[.int .u32 (readB bs).1.ep, .int .u32 (readB bs).1.nu, .int .i64 (readB bs).1.ki, .bool (readB bs).1.fi, .bool (readB bs).1.la, .string ⟨(readB bs).1.da.toArray⟩], .int .i64 (readB bs).2]) ∧ Below w.heap.size w w' := by
  have R0 := Lib.hid (RD.start w bs hl 56 44)
  have hcv : (convert 25 9 (.slice (some ⟨w.heap.size, 0, none⟩) 64 64)).run Try.prog ((w.alloc (.cells (bs.map bv).toArray 56)).alloc (.cells #[.int .u32 0, .int .u32 0, .int .i64 0, .bool false, .bool false, .string ⟨#[]⟩] 44)) = .ok (.string ⟨bs.toArray⟩) ((w.alloc (.cells (bs.map bv).toArray 56)).alloc (.cells #[.int .u32 0, .int .u32 0, .int .i64 0, .bool false, .bool false, .string ⟨#[]⟩] 44)) :=
    run_bytes_str R0.out.buf.bytesAt hl.symm
  have hsz : (ByteArray.mk bs.toArray).size = 64 := by simpa [ByteArray.size] using hl
  have hs4 : ∀ W, (Instr.slice 9 (.string ⟨bs.toArray⟩) (some (.int .i64 4)) none none).run Try.prog W = .ok (.string ⟨(bs.drop 4).toArray⟩) W := fun W => by
    rw [run_str_from _ 4 (by decide) (by rw [hsz]; decide) W]; rw [show (4 : Int).toNat = 4 from rfl, extract_drop]
  have N := Lib.hid (fun (l : List UInt8) (h : l.length ≤ 64) W => number_any ⟨l.toArray⟩ (by unfold maxLen; simp [ByteArray.size]; omega) W)
  have S := Lib.hid (fun W => sum_any ⟨(bs.drop 4).toArray⟩ (by unfold maxLen; simp [ByteArray.size]; omega) W)
  go_enter Try.func44, Try.ntmps44
  go_wp2_with fail
  refine wp_gate (fun W => RD w W w.heap.size (w.heap.size + 1) bs) R0.out ?_
  clear R0 hcv
  intro W1 hL
  generalize w.heap.size + 1 = g2 at *
  have HL1 := Lib.hid (hL.step (Below.refl _ _).drew)
  clear hL
  go_region_held3 (fun _ => True) (trivial)
    (first
      | (go_at_call 35; refine (N.out bs (by omega) _).mono ?_; rintro e w' ⟨rfl, rfl⟩)
      | (go_at_call 29; refine (S.out _).mono ?_; rintro e w' ⟨rfl, hb⟩; have HL2 := Lib.hid (HL1.out.step hb)))
  obtain ⟨n, hnn, c14, hnb⟩ : ∃ n : Nat, (bs.getD 14 0).toNat = n ∧ w'.cell? ⟨w.heap.size, 14, none⟩ = some (.int .u8 (n : Int)) ∧ n < 256 := ⟨bs[14].toNat, by rw [List.getD_eq_getElem?_getD, List.getElem?_eq_getElem (by omega)]; rfl, HL2.out.buf.cell 14 (by omega), bs[14].toNat_lt⟩
  have HN := Lib.hid hnn
  clear hnn
  have hp := HL2.out.res
  obtain ⟨z0, z1, z2, z3, z4, z5⟩ := hp
  have fz := HL2.out.froz
  simp only [Nat.zero_add] at z0 z1 z2 z3 z4 z5
  clear HL1 hb
  by_cases hsum : numP bs = CrcP.sum (bs.drop 4)
  · have hne : ((numP bs : Int) != (CrcP.sum (bs.drop 4) : Int)) = false := by rw [hsum]; simp
    clear z0 z1 z2 z3 z4 z5 fz
    have hs8 : ∀ W, (Instr.slice 9 (.string ⟨bs.toArray⟩) (some (.int .i64 8)) none none).run Try.prog W = .ok (.string ⟨(bs.drop 8).toArray⟩) W := fun W => by
      rw [run_str_from _ 8 (by decide) (by rw [hsz]; decide) W]; rw [show (8 : Int).toNat = 8 from rfl, extract_drop]
    obtain ⟨k, hkk, c12, hkb⟩ : ∃ k : Nat, (bs.getD 12 0).toNat = k ∧ w'.cell? ⟨w.heap.size, 12, none⟩ = some (.int .u8 (k : Int)) ∧ k < 256 := ⟨bs[12].toNat, by rw [List.getD_eq_getElem?_getD, List.getElem?_eq_getElem (by omega)]; rfl, HL2.out.buf.cell 12 (by omega), bs[12].toNat_lt⟩
    obtain ⟨m, hmm, c13, hmb⟩ : ∃ m : Nat, (bs.getD 13 0).toNat = m ∧ w'.cell? ⟨w.heap.size, 13, none⟩ = some (.int .u8 (m : Int)) ∧ m < 256 := ⟨bs[13].toNat, by rw [List.getD_eq_getElem?_getD, List.getElem?_eq_getElem (by omega)]; rfl, HL2.out.buf.cell 13 (by omega), bs[13].toNat_lt⟩
    have HK := Lib.hid hkk
    have HM := Lib.hid hmm
    obtain ⟨m1, hm1, hb1⟩ : ∃ m1 : Nat, m &&& 1 = m1 ∧ bits BinOp.and IntKind.u8 (m : Int) 1 = (m1 : Int) := ⟨_, rfl, u8_and_nat m 1 hmb (by decide)⟩
    obtain ⟨m2, hm2, hb2⟩ : ∃ m2 : Nat, m &&& 2 = m2 ∧ bits BinOp.and IntKind.u8 (m : Int) 2 = (m2 : Int) := ⟨_, rfl, u8_and_nat m 2 hmb (by decide)⟩
    have hwk : IntKind.i64.wrap (k : Int) = k := wrap_small k (by omega)
    have HM1 := Lib.hid hm1
    have HM2 := Lib.hid hm2
    clear hkk hmm hm1 hm2
    go_upto_region 4 with fail
    go_cut [5] from 7 to 19 (fun a5 wx => ∃ M : Nat, a5 = .int .i64 M ∧ M = min n 49 ∧ wx = w')
    case first =>
      by_cases hn49 : n ≤ 49
      · go_wp2_with fail
        go_meet
        case rel => exact ⟨n, rfl, by omega, rfl⟩
      · go_wp2_with fail
        go_meet
        case rel => exact ⟨49, rfl, by omega, rfl⟩
    case rest =>
      obtain ⟨M, rfl, hM, rfl⟩ := hcut
      have hM49 : M ≤ 49 := by omega
      have HMM := Lib.hid hM
      clear c14 hM
      have hs15 : ∀ W, (Instr.slice 9 (.string ⟨bs.toArray⟩) (some (.int .i64 15)) (some (.int .i64 (15 + (M : Int)))) none).run Try.prog W = .ok (.string ⟨((bs.drop 15).take M).toArray⟩) W := fun W => by
        rw [run_str_slice _ 15 (15 + (M : Int)) (by decide) (by omega) (by rw [hsz]; omega) W, show (15 : Int).toNat = 15 from rfl, show (15 + (M : Int) : Int).toNat = 15 + M by omega, extract_mid]
      obtain ⟨p, hp⟩ : ∃ p, parse bs = p := ⟨_, rfl⟩
      have e0 : numP (bs.drop 4) = p.ep := by rw [← hp]; rfl
      have e1 : numP (bs.drop 8) = p.nu := by rw [← hp]; rfl
      have e2 : (k : Int) = p.ki := by rw [← hp, ← HK.out]; rfl
      have e3 : decide (0 < m1) = p.fi := by rw [← hp, ← HM1.out, ← HM.out]; rfl
      have e4 : decide (0 < m2) = p.la := by rw [← hp, ← HM2.out, ← HM.out]; rfl
      have e5 : (bs.drop 15).take M = p.da := by rw [← hp]; show _ = List.take (min (bs.getD 14 0).toNat 49) _; rw [HN.out, HMM.out]
      have EQ := Lib.hid (And.intro e2 (And.intro e3 e4))
      have HPP := Lib.hid hp
      have HLT := Lib.hid (parse_lt bs)
      rw [hp] at HLT
      rw [e5] at hs15
      have hN4 : ∀ W, Calls Try.prog 35 #[.string ⟨(bs.drop 4).toArray⟩] W fun e w' => e = .returned (.int .u32 p.ep) ∧ w' = W := fun W => by
        refine (N.out (bs.drop 4) (by simp; omega) W).mono ?_
        rintro e w5 ⟨rfl, rfl⟩
        rw [e0]; exact ⟨rfl, rfl⟩
      have hN8 : ∀ W, Calls Try.prog 35 #[.string ⟨(bs.drop 8).toArray⟩] W fun e w' => e = .returned (.int .u32 p.nu) ∧ w' = W := fun W => by
        refine (N.out (bs.drop 8) (by simp; omega) W).mono ?_
        rintro e w5 ⟨rfl, rfl⟩
        rw [e1]; exact ⟨rfl, rfl⟩
      have HC := Lib.hid (And.intro hN4 hN8)
      have hw15 : IntKind.i64.wrap (15 + (M : Int)) = 15 + (M : Int) := wrap_small (15 + M) (by omega)
      clear hp e0 e1 e2 e3 e4 e5 hN4 hN8
      go_upto_region 5 with fail
      go_cut [6] from 7 to 41 (fun a6 wx => ∃ g3, a6 = .pointer (some ⟨g3, 0, none⟩) ∧ RE w wx w.heap.size g2 g3 bs p)
      case first =>
        go_region_held3 (fun W => W.cell? ⟨w.heap.size, 12, none⟩ = some (.int .u8 (k : Int)) ∧ W.cell? ⟨w.heap.size, 13, none⟩ = some (.int .u8 (m : Int))) (first | go_keep)
          (first
            | (go_at_call_of 35 (Value.string ⟨(bs.drop 4).toArray⟩); refine (HC.out.1 _).mono ?_; rintro e w5 ⟨rfl, rfl⟩)
            | (go_at_call_of 35 (Value.string ⟨(bs.drop 8).toArray⟩); refine (HC.out.2 _).mono ?_; rintro e w5 ⟨rfl, rfl⟩))
        all_goals (go_wp2_with fail; go_meet)
        all_goals exact ⟨_, rfl, (RE.alloc HL2.out p _ 44 (by rw [EQ.out.1, EQ.out.2.1, EQ.out.2.2])).step (Below.refl _ _).drew⟩
      case rest =>
        obtain ⟨g3, rfl, hre⟩ := hcut
        clear c12 c13 hs15 hs8 hs4 HC hb1 hb2 hwk hw15
        have HE := Lib.hid hre
        clear hre
        have hE0 : RE w wc.drew w.heap.size g2 g3 bs p := HE.out.step (Below.refl _ _).drew
        have HE1 := Lib.hid hE0
        clear hE0
        have x0 : ∀ x : WS (fun W => RE w W w.heap.size g2 g3 bs p), x.w.cell? ⟨g3, 0, none⟩ = some (.int .u32 p.ep) := fun x => x.ok.pg.c0
        have x1 : ∀ x : WS (fun W => RE w W w.heap.size g2 g3 bs p), x.w.cell? ⟨g3, 1, none⟩ = some (.int .u32 p.nu) := fun x => x.ok.pg.c1
        have x2 : ∀ x : WS (fun W => RE w W w.heap.size g2 g3 bs p), x.w.cell? ⟨g3, 2, none⟩ = some (.int .i64 p.ki) := fun x => x.ok.pg.c2
        have x3 : ∀ x : WS (fun W => RE w W w.heap.size g2 g3 bs p), x.w.cell? ⟨g3, 3, none⟩ = some (.bool p.fi) := fun x => x.ok.pg.c3
        have x4 : ∀ x : WS (fun W => RE w W w.heap.size g2 g3 bs p), x.w.cell? ⟨g3, 4, none⟩ = some (.bool p.la) := fun x => x.ok.pg.c4
        have x5 : ∀ x : WS (fun W => RE w W w.heap.size g2 g3 bs p), x.w.cell? ⟨g3, 5, none⟩ = some (.string ⟨p.da.toArray⟩) := fun x => x.ok.pg.c5
        have hl56 : ∀ x : WS (fun W => RE w W w.heap.size g2 g3 bs p), (Instr.loadAt 56 (.pointer (some ⟨w.heap.size, 0, none⟩))).run Try.prog x.w = .ok (.agg (bs.map bv).toArray) x.w := fun x => x.ok.rd.buf.load56
        have hneq : ∀ W, (binOp .neq 56 (.agg ((layB p).map bv).toArray) (.agg (bs.map bv).toArray)).run Try.prog W = .ok (.bool (layB p != bs)) W := fun W => run_neq56 W (layB p) bs (layB_length p HLT.out.2.2.1) hl
        have L := Lib.hid (fun W => laid_any p HLT.out.2.2.1 HLT.out.1 HLT.out.2.1 HLT.out.2.2.2 W)
        simp only [pgB] at L
        have R := Lib.hid (fun W => right_any p (by unfold maxLen; have := HLT.out.2.2.1; omega) W)
        by_cases hr : p.right = true
        · rw [hr] at R
          go_wp2_with fail
          refine wp_region_ws (fun W => RE w W w.heap.size g2 g3 bs p) (by kernel_rfl) (by kernel_rfl) HE1.out ?_
          haveI : Nonempty (WS (fun W => RE w W w.heap.size g2 g3 bs p)) := ⟨⟨wc.drew, HE1.out⟩⟩
          repeat (first | (go_big_quiet_step (first | (go_at_call 49; exact ws_call (fun W W' h hb => h.step hb) (R.out _)) | (go_at_call 85; exact ws_call (fun W W' h hb => h.step hb) (L.out _)))) | (go_big_quiet_want; refine quiet_load 56 _ (by rfl) _ (by rfl) _ hl56 ?_; go_simp; go_big_quiet_on))
          refine wpQuiet_nil ?_
          rintro _ ⟨⟨W, hW⟩, rfl⟩
          have HW := Lib.hid hW
          clear hW x0 x1 x2 x3 x4 x5 hl56 hneq this
          by_cases hle : layB p = bs
          · have hlb : (layB p != bs) = false := by simp [hle]
            have HRB := Lib.hid (show readB bs = (p, 0) by unfold readB; rw [if_neg (not_not_intro hsum), HPP.out, if_pos ⟨hr, hle⟩])
            have HR := Lib.hid (below_setCells HW.out.rd.ge2 (pgC p) 0 _ HW.out.rd.below)
            rw [hlb]
            clear hle hlb
            go_wp2_with (first | refine wpList_load44 (by rfl) _ (by rfl) g3 0 (by rfl) p HW.out.pg ?_ | refine wpList_store44 (by rfl) _ _ (by rfl) g2 0 (by rfl) p (by rfl) _ HW.out.rd.res HW.out.rd.froz ?_)
            rw [HRB.out]
            exact bodyPost_ret (results_cell2 (p := 2) (u := 3) (ty := 44) rfl _ _ ⟨g2, 0, none⟩ _ _ rfl (HW.out.rd.res.set HW.out.rd.froz p).loadVar44 rfl) rfl ⟨rfl, HR.out⟩
          · have hlb : (layB p != bs) = true := by simpa using hle
            obtain ⟨np, hnp⟩ : ∃ np, np = noPg := ⟨_, rfl⟩
            have HRB := Lib.hid (show readB bs = (np, 4) by unfold readB; rw [if_neg (not_not_intro hsum), HPP.out, if_neg (fun h => hle h.2), hnp]; rfl)
            have HNP := Lib.hid hnp
            have HR := Lib.hid (below_setCells HW.out.rd.ge2 (pgC np) 0 _ HW.out.rd.below)
            rw [hlb]
            clear hnp hle hlb
            go_wp2_with (refine wpList_store44 (by rfl) _ _ (by rfl) g2 0 (by rfl) np (by rw [HNP.out]; rfl) _ HW.out.rd.res HW.out.rd.froz ?_)
            rw [HRB.out]
            exact bodyPost_ret (results_cell2 (p := 2) (u := 3) (ty := 44) rfl _ _ ⟨g2, 0, none⟩ _ _ rfl (HW.out.rd.res.set HW.out.rd.froz np).loadVar44 rfl) rfl ⟨rfl, HR.out⟩
        · have hr0 : p.right = false := by simpa using hr
          rw [hr0] at R
          go_wp2_with fail
          refine wp_region_ws (fun W => RE w W w.heap.size g2 g3 bs p) (by kernel_rfl) (by kernel_rfl) HE1.out ?_
          haveI : Nonempty (WS (fun W => RE w W w.heap.size g2 g3 bs p)) := ⟨⟨wc.drew, HE1.out⟩⟩
          repeat (go_big_quiet_step ((go_at_call 49; exact ws_call (fun W W' h hb => h.step hb) (R.out _))))
          refine wpQuiet_nil ?_
          rintro _ ⟨⟨W, hW⟩, rfl⟩
          have HW := Lib.hid hW
          clear hW x0 x1 x2 x3 x4 x5 hl56 hneq this
          obtain ⟨np, hnp⟩ : ∃ np, np = noPg := ⟨_, rfl⟩
          have HRB := Lib.hid (show readB bs = (np, 4) by unfold readB; rw [if_neg (not_not_intro hsum), HPP.out, if_neg (fun h => hr h.1), hnp]; rfl)
          have HNP := Lib.hid hnp
          have HR := Lib.hid (below_setCells HW.out.rd.ge2 (pgC np) 0 _ HW.out.rd.below)
          clear hnp
          go_wp2_with (refine wpList_store44 (by rfl) _ _ (by rfl) g2 0 (by rfl) np (by rw [HNP.out]; rfl) _ HW.out.rd.res HW.out.rd.froz ?_)
          rw [HRB.out]
          exact bodyPost_ret (results_cell2 (p := 2) (u := 3) (ty := 44) rfl _ _ ⟨g2, 0, none⟩ _ _ rfl (HW.out.rd.res.set HW.out.rd.froz np).loadVar44 rfl) rfl ⟨rfl, HR.out⟩
  · have hne : ((numP bs : Int) != (CrcP.sum (bs.drop 4) : Int)) = true := by simp; omega
    obtain ⟨np, hnp⟩ : ∃ np, np = noPg := ⟨_, rfl⟩
    have HRB := Lib.hid (show readB bs = (np, 3) by rw [hnp]; exact read_3 bs hsum)
    have HNP := Lib.hid hnp
    clear hnp z0 z1 z2 z3 z4 z5 c14
    have HR := Lib.hid (below_setCells HL2.out.ge2 (pgC np) 0 _ HL2.out.below)
    go_wp2_with (refine wpList_store44 (by rfl) _ _ (by rfl) g2 0 (by rfl) np (by rw [HNP.out]; rfl) _ HL2.out.res HL2.out.froz ?_)
    rw [HRB.out]
    exact bodyPost_ret (results_cell2 (p := 2) (u := 3) (ty := 44) rfl _ _ ⟨g2, 0, none⟩ _ _ rfl (HL2.out.res.set HL2.out.froz np).loadVar44 rfl) rfl ⟨rfl, HR.out⟩
end Go.Proofs.Ytmaaljfcnnlnpaa
