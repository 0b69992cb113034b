/-
  The walk of the law PagePlays.
-/
import Derived.Test.YtmaaljfcnnlnpaaPageWalk7
import Derived.Test.YtmaaljfcnnlnpaaPageLaw4
namespace Go.Proofs.Ytmaaljfcnnlnpaa
open Go.RowKit

section
variable {ops : Array Oper} {rest : List Oper} {op : Oper} {a : Act} {w : World} {Q : Exit → Act → World → Prop}
/-- A page of the document's written into a new block: the world behind it is a letter. -/
theorem wpList_new42 (hgd : op.guard = none) (x y : Operand) (ho : op.op = .store 42 x y) (w0 : World) (c : Array Value) (hw : w = w0.alloc (.cells c 42)) (hc : c = #[.int .u32 0, .int .u32 0, .int .i64 0, .bool false, .bool false, .string ⟨#[]⟩]) (hx : a.eval x = .pointer (some ⟨w0.heap.size, 0, none⟩))
    (p : Pg) (hy : a.eval y = .agg #[.int .u32 p.ep, .int .u32 p.nu, .int .i64 p.ki, .bool p.fi, .bool p.la, .string ⟨p.da.toArray⟩])
    (h : ∀ W', PgAt W' w0.heap.size 0 p → Below w0.heap.size w0 W' → w0.heap.size < W'.heap.size → wpList Try.prog ops Q rest (a.put op.dst undef) W') : wpList Try.prog ops Q (op :: rest) a w := by
  subst hw hc
  have hz : PgAt (w0.alloc (.cells #[.int .u32 0, .int .u32 0, .int .i64 0, .bool false, .bool false, .string ⟨#[]⟩] 42)) w0.heap.size 0 noPg := by
    refine ⟨?_, ?_, ?_, ?_, ?_, ?_⟩ <;> rw [World.cell?_alloc_new] <;> rfl
  have hf : ∀ i, (w0.alloc (.cells #[.int .u32 0, .int .u32 0, .int .i64 0, .bool false, .bool false, .string ⟨#[]⟩] 42)).frozen? ⟨w0.heap.size, i, none⟩ = false := fun i => World.frozen?_alloc_new _ _ _ _
  refine wpList_store42 hgd x y ho w0.heap.size 0 hx p hy noPg hz hf ?_
  refine h _ (hz.set hf p) (below_setCells (Nat.le_refl _) _ _ _ ((Below.refl _ _).alloc (Nat.le_refl _) _)) ?_
  rw [heap_size_setCells]; simp
end

/-- In a region walked by a class: the zero value of sixty-four bytes, not written out. -/
theorem quiet_zero56 {J : World → Prop} {o : Oper} {a : Act} {K : Act → Prop} (z : List UInt8) (hz : z = zero64) (ho : o.op = .build 56 #[]) (hK : K (a.put o.dst (.agg (z.map bv).toArray))) : o.quiet Try.prog a (fun w' => ∃ y : WS J, w' = y.w) K := by
  subst hz
  refine ⟨_, ?_, hK⟩
  rintro w ⟨y, rfl⟩
  unfold Oper.quietAt execOp
  simp [ho, run_build56, Result.andThen]
  exact ⟨rfl, rfl⟩

/-- The worlds of the walk: the page boxed, the bytes boxed. -/
structure PQ (w W : World) (p : Pg) (b : List UInt8) : Prop where
  pb : PB w W p
  bb : Buf W (w.heap.size + 1) b
theorem PQ.step {w W W' : World} {p : Pg} {b : List UInt8} (h : PQ w W p b) (hb : Below W.heap.size W W') : PQ w W' p b := ⟨h.pb.step hb, h.bb.step hb⟩
theorem PQ.start (w : World) (p : Pg) (b : List UInt8) (hb : b.length = 64) (t1 t2 : TypeId) : PQ w ((w.alloc (.cells #[.int .u32 p.ep, .int .u32 p.nu, .int .i64 p.ki, .bool p.fi, .bool p.la, .string ⟨p.da.toArray⟩] t1)).alloc (.cells (b.map bv).toArray t2)) p b := by
  refine ⟨(PB.start w p t1).step ((Below.refl _ _).alloc (Nat.le_refl _) _), ?_⟩
  have := Buf.new (w.alloc (.cells #[.int .u32 p.ep, .int .u32 p.nu, .int .i64 p.ki, .bool p.fi, .bool p.la, .string ⟨p.da.toArray⟩] t1)) b _ t2 rfl hb
  simpa using this

/-- .. and what was laid. -/
structure PQ3 (w W : World) (p : Pg) (b : List UInt8) (g : Nat) (c : List UInt8) : Prop where
  pq : PQ w W p b
  buf : Buf W g c
theorem PQ3.step {w W W' : World} {p : Pg} {b c : List UInt8} {g : Nat} (h : PQ3 w W p b g c) (hb : Below W.heap.size W W') : PQ3 w W' p b g c := ⟨h.pq.step hb, h.buf.step hb⟩

/-- .. and what was read, twice. -/
structure PX (w W : World) (g1 g2 : Nat) (q : Pg) : Prop where
  below : Below w.heap.size w W
  a1 : PgAt W g1 0 q
  a2 : PgAt W g2 0 q
  l1 : g1 < W.heap.size
  l2 : g2 < W.heap.size
theorem PX.step {w W W' : World} {g1 g2 : Nat} {q : Pg} (h : PX w W g1 g2 q) (hb : Below W.heap.size W W') : PX w W' g1 g2 q :=
  ⟨h.below.trans (hb.mono h.below.size), h.a1.below hb h.l1, h.a2.below hb h.l2, Nat.lt_of_lt_of_le h.l1 hb.size, Nat.lt_of_lt_of_le h.l2 hb.size⟩

set_option maxRecDepth 100000 in
set_option maxHeartbeats 8000000 in
theorem pagePlays_walk (p : Pg) (b : List UInt8) (hbl : b.length = 64) (he : p.ep < 4294967296) (hn : p.nu < 4294967296) (hm : p.da.length ≤ maxLen) (w : World) :
    Calls Try.prog 18 #[.agg #[.int .u32 p.ep, .int .u32 p.nu, .int .i64 p.ki, .bool p.fi, .bool p.la, .string ⟨p.da.toArray⟩], .agg (b.map bv).toArray] w fun e w' => e = .returned (.bool true) ∧ Below w.heap.size w w' := by
  have A := Lib.hid (fun W => awake17 W)
  have O := Lib.hid (fun W => of17_any p W)
  have L := Lib.hid (fun W => lay_val p hm he hn W)
  have RR := Lib.hid (fun W => refright17 p hm W)
  have RA := Lib.hid (fun W => right_any p hm W)
  obtain ⟨q, f, hqf⟩ : ∃ q f, readB b = (q, f) := ⟨_, _, rfl⟩
  have RD1 := Lib.hid (fun W => read_val b hbl q f hqf W)
  have RD2 := Lib.hid (fun W => refread_any b hbl W)
  rw [← read_ref b hbl, hqf] at RD2
  have PL := Lib.hid (fun W => plain_pg q W)
  have S0 := Lib.hid (fun t1 t2 => PQ.start w p b hbl t1 t2)
  have hsz : (ByteArray.mk p.da.toArray).size = p.da.length := by simp [ByteArray.size]
  clear hqf
  go_enter Try.func18, Try.ntmps18
  go_upto_region 1 with fail
  refine wp_gate (fun W => PQ w W p b) (S0.out _ _) ?_
  clear S0
  intro W0 hS
  have S0 := Lib.hid hS
  clear hS
  go_wp2_with fail
  refine (A.out _).mono ?_
  rintro e w1 ⟨rfl, hb⟩
  have S1 := S0.out.step hb
  clear hb S0
  have q5 := S1.pb.pg.c5
  simp only [Nat.zero_add] at q5
  have HS1 := Lib.hid S1
  clear S1
  by_cases hlen : 200 < p.da.length
  · go_wp2_with fail
    refine (A.out _).mono ?_
    rintro e w2 ⟨rfl, hb⟩
    go_wp2_with fail
    go_ret
    exact ⟨rfl, (HS1.out.step hb).pb.below⟩
  · go_wp2_with (refine wpList_load42g _ (by rfl) (by rfl) _ 0 (by rfl) p HS1.out.pb.pg ?_)
    refine (O.out _).mono ?_
    rintro e w2 ⟨rfl, hb⟩
    have HS2 := Lib.hid (HS1.out.step hb)
    clear hb q5 HS1
    go_wp2_with fail
    refine (L.out _).mono ?_
    rintro e w3 ⟨rfl, hb⟩
    have HS3 := Lib.hid (HS2.out.step hb)
    clear hb HS2
    obtain ⟨z, hz⟩ : ∃ z, z = zero64 := ⟨_, rfl⟩
    have HZ := Lib.hid hz
    obtain ⟨c, hc⟩ : ∃ c, (if p.right then layB p else zero64) = c := ⟨_, rfl⟩
    have hcl : c.length = 64 := by
      rw [← hc]
      split
      · rename_i h
        exact layB_length p (right_ki p h).2.2
      · rfl
    have hne : ∀ W, (binOp .neq 56 (.agg (c.map bv).toArray) (.agg (c.map bv).toArray)).run Try.prog W = .ok (.bool false) W := fun W => by
      have := run_neq56 W c c hcl hcl
      rwa [bne_self_eq_false] at this
    have HNE := Lib.hid hne
    have HCL := Lib.hid hcl
    obtain ⟨e6, he6⟩ : ∃ e6 : Int, (if p.right = true then (0 : Int) else 1) = e6 := ⟨_, rfl⟩
    rw [hc, he6]
    have HE6 := Lib.hid he6
    clear he6
    have HC := Lib.hid hc
    clear hc hcl hne hz
    go_wp2_with (first
      | (refine wpList_new56 (by rfl) _ _ (by rfl) _ _ rfl (by rfl) (by rfl) c (by rfl) HCL.out ?_; intro w4 hbuf hw4 hlt4; have HS4 := Lib.hid (show PQ3 w w4 p b w3.heap.size c from ⟨HS3.out.step hw4, hbuf⟩); clear hbuf hw4)
      | (refine wpList_load42g _ (by rfl) (by rfl) _ 0 (by rfl) p HS4.out.pq.pb.pg ?_))
    refine (RR.out _).mono ?_
    rintro e w5 ⟨rfl, hb⟩
    have HS5 := Lib.hid (HS4.out.step hb)
    clear hb HS4 HS3
    generalize w3.heap.size = gc at *
    have HJ0 := Lib.hid (HS5.out.step (Below.refl _ _).drew)
    have hl56 : ∀ y : WS (fun W => PQ3 w W p b gc c), (Instr.loadAt 56 (.pointer (some ⟨gc, 0, none⟩))).run Try.prog y.w = .ok (.agg (c.map bv).toArray) y.w := fun y => y.ok.buf.load56
    have hl42 : ∀ y : WS (fun W => PQ3 w W p b gc c), (Instr.loadAt 42 (.pointer (some ⟨w.heap.size, 0, none⟩))).run Try.prog y.w = .ok (.agg #[.int .u32 p.ep, .int .u32 p.nu, .int .i64 p.ki, .bool p.fi, .bool p.la, .string ⟨p.da.toArray⟩]) y.w := fun y => y.ok.pq.pb.pg.loadAt42
    have hne := HNE.out
    haveI : Nonempty (WS (fun W => PQ3 w W p b gc c)) := ⟨⟨w5.drew, HJ0.out⟩⟩
    by_cases hr : p.right = true
    · have HCR := Lib.hid (show layB p = c by have := HC.out; rwa [if_pos hr] at this)
      have RL := Lib.hid (fun W => reflay_any p hr he hn W)
      rw [HCR.out] at RL
      unfold pgB at RL
      obtain rfl : 0 = e6 := by have := HE6.out; rwa [if_pos hr] at this
      rw [hr] at RA ⊢
      go_upto_region 5 with fail
      refine wp_region_ws (fun W => PQ3 w W p b gc c) (by kernel_rfl) (by kernel_rfl) HJ0.out ?_
      repeat (first
        | (go_big_quiet_step (first
            | (go_at_call 60; exact ws_call (fun W W' h hb => h.step hb) (O.out _))
            | (go_at_call 49; exact ws_call (fun W W' h hb => h.step hb) (RA.out _))
            | (go_at_call 62; exact ws_call (fun W W' h hb => h.step hb) (RL.out _))))
        | (go_big_quiet_want; refine quiet_load 56 _ (by rfl) _ (by rfl) _ hl56 ?_; go_simp; go_big_quiet_on)
        | (go_big_quiet_want; refine quiet_load 42 _ (by rfl) _ (by rfl) _ hl42 ?_; go_simp; go_big_quiet_on))
      refine wpQuiet_nil ?_
      rintro w6 ⟨⟨w7, hw7⟩, hw6⟩
      have HS6 := Lib.hid (show PQ3 w w6 p b gc c by rw [hw6]; exact hw7)
      clear hw6 hw7 hl56 hl42 hne this
      go_wp2_with (refine wpList_load55g _ (by rfl) (by rfl) (w.heap.size + 1) (by rfl) b HS6.out.pq.bb ?_)
      refine (RD1.out _).mono ?_
      rintro e w8 ⟨rfl, hb⟩
      have HS7 := Lib.hid (HS6.out.pq.step hb)
      clear hb HS6
      go_wp2_with (first
        | (refine wpList_new44 (by rfl) _ _ (by rfl) _ _ rfl (by rfl) (by rfl) q (by rfl) ?_; intro w9 hpg hw9 hlt9; have HS8 := Lib.hid (HS7.out.step hw9); have HG := Lib.hid hpg; have HGL := Lib.hid hlt9; clear hpg hw9 hlt9)
        | (refine wpList_load55g _ (by rfl) (by rfl) (w.heap.size + 1) (by rfl) b HS8.out.bb ?_))
      refine (RD2.out _).mono ?_
      rintro e w10 ⟨rfl, hb⟩
      have HS9 := Lib.hid (HS8.out.step hb)
      have HG2 := Lib.hid (HG.out.below hb HGL.out)
      have HGL2 := Lib.hid (Nat.lt_of_lt_of_le HGL.out hb.size)
      clear hb HS8 HS7 HG HGL
      generalize w8.heap.size = g1 at *
      go_upto_region 9 with (refine wpList_new42 (by rfl) _ _ (by rfl) _ _ rfl (by rfl) (by rfl) q (by rfl) ?_; intro w11 hpg hw11 hlt11; have HX := Lib.hid (show PX w w11 g1 w10.heap.size q from ⟨(HS9.out.step hw11).pb.below, HG2.out.below hw11 HGL2.out, hpg, Nat.lt_of_lt_of_le HGL2.out hw11.size, hlt11⟩); clear hpg hw11 hlt11)
      generalize w10.heap.size = g2 at *
      have HJ1 := Lib.hid (HX.out.step (Below.refl _ _).drew)
      have hl44 : ∀ y : WS (fun W => PX w W g1 g2 q), (Instr.loadAt 44 (.pointer (some ⟨g1, 0, none⟩))).run Try.prog y.w = .ok (.agg #[.int .u32 q.ep, .int .u32 q.nu, .int .i64 q.ki, .bool q.fi, .bool q.la, .string ⟨q.da.toArray⟩]) y.w := fun y => y.ok.a1.loadAt44
      have hl42 : ∀ y : WS (fun W => PX w W g1 g2 q), (Instr.loadAt 42 (.pointer (some ⟨g2, 0, none⟩))).run Try.prog y.w = .ok (.agg #[.int .u32 q.ep, .int .u32 q.nu, .int .i64 q.ki, .bool q.fi, .bool q.la, .string ⟨q.da.toArray⟩]) y.w := fun y => y.ok.a2.loadAt42
      have heq : ∀ W : World, (binOp .eql 42 (.agg #[.int .u32 q.ep, .int .u32 q.nu, .int .i64 q.ki, .bool q.fi, .bool q.la, .string ⟨q.da.toArray⟩]) (.agg #[.int .u32 q.ep, .int .u32 q.nu, .int .i64 q.ki, .bool q.fi, .bool q.la, .string ⟨q.da.toArray⟩])).run Try.prog W = .ok (.bool true) W := by
        intro W
        simp [go_sem]
      haveI : Nonempty (WS (fun W => PX w W g1 g2 q)) := ⟨⟨w11.drew, HJ1.out⟩⟩
      refine wp_region_ws (fun W => PX w W g1 g2 q) (by kernel_rfl) (by kernel_rfl) HJ1.out ?_
      repeat (first
        | (go_big_quiet_step ((go_at_call 39; exact ws_call (fun W W' h hb => h.step hb) (PL.out _))))
        | (go_big_quiet_want; refine quiet_load 44 _ (by rfl) _ (by rfl) _ hl44 ?_; go_simp; go_big_quiet_on)
        | (go_big_quiet_want; refine quiet_load 42 _ (by rfl) _ (by rfl) _ hl42 ?_; go_simp; go_big_quiet_on))
      refine wpQuiet_nil ?_
      rintro w12 ⟨⟨w13, hw13⟩, hw12⟩
      have HY := Lib.hid (show PX w w12 g1 g2 q by rw [hw12]; exact hw13)
      clear hw12 hw13 hl44 hl42 heq this
      go_wp2_with fail
      go_ret
      exact ⟨rfl, HY.out.below⟩
    · have hr0 : p.right = false := by simpa using hr
      have HCZ := Lib.hid (show z = c by have := HC.out; rw [if_neg hr] at this; exact HZ.out.trans this)
      obtain rfl : 1 = e6 := by have := HE6.out; rwa [if_neg hr] at this
      rw [hr0] at RA ⊢
      go_upto_region 5 with fail
      refine wp_region_ws (fun W => PQ3 w W p b gc c) (by kernel_rfl) (by kernel_rfl) HJ0.out ?_
      repeat (first
        | (go_big_quiet_want; refine quiet_zero56 c (HCZ.out.symm.trans HZ.out) (by rfl) ?_; go_simp; go_big_quiet_on)
        | (go_big_quiet_step (first
            | (go_at_call 60; exact ws_call (fun W W' h hb => h.step hb) (O.out _))
            | (go_at_call 49; exact ws_call (fun W W' h hb => h.step hb) (RA.out _))))
        | (go_big_quiet_want; refine quiet_load 56 _ (by rfl) _ (by rfl) _ hl56 ?_; go_simp; go_big_quiet_on)
        | (go_big_quiet_want; refine quiet_load 42 _ (by rfl) _ (by rfl) _ hl42 ?_; go_simp; go_big_quiet_on))
      refine wpQuiet_nil ?_
      rintro w6 ⟨⟨w7, hw7⟩, hw6⟩
      have HS6 := Lib.hid (show PQ3 w w6 p b gc c by rw [hw6]; exact hw7)
      clear hw6 hw7 hl56 hl42 hne this
      go_wp2_with (refine wpList_load55g _ (by rfl) (by rfl) (w.heap.size + 1) (by rfl) b HS6.out.pq.bb ?_)
      refine (RD1.out _).mono ?_
      rintro e w8 ⟨rfl, hb⟩
      have HS7 := Lib.hid (HS6.out.pq.step hb)
      clear hb HS6
      go_wp2_with (first
        | (refine wpList_new44 (by rfl) _ _ (by rfl) _ _ rfl (by rfl) (by rfl) q (by rfl) ?_; intro w9 hpg hw9 hlt9; have HS8 := Lib.hid (HS7.out.step hw9); have HG := Lib.hid hpg; have HGL := Lib.hid hlt9; clear hpg hw9 hlt9)
        | (refine wpList_load55g _ (by rfl) (by rfl) (w.heap.size + 1) (by rfl) b HS8.out.bb ?_))
      refine (RD2.out _).mono ?_
      rintro e w10 ⟨rfl, hb⟩
      have HS9 := Lib.hid (HS8.out.step hb)
      have HG2 := Lib.hid (HG.out.below hb HGL.out)
      have HGL2 := Lib.hid (Nat.lt_of_lt_of_le HGL.out hb.size)
      clear hb HS8 HS7 HG HGL
      generalize w8.heap.size = g1 at *
      go_upto_region 9 with (refine wpList_new42 (by rfl) _ _ (by rfl) _ _ rfl (by rfl) (by rfl) q (by rfl) ?_; intro w11 hpg hw11 hlt11; have HX := Lib.hid (show PX w w11 g1 w10.heap.size q from ⟨(HS9.out.step hw11).pb.below, HG2.out.below hw11 HGL2.out, hpg, Nat.lt_of_lt_of_le HGL2.out hw11.size, hlt11⟩); clear hpg hw11 hlt11)
      generalize w10.heap.size = g2 at *
      have HJ1 := Lib.hid (HX.out.step (Below.refl _ _).drew)
      have hl44 : ∀ y : WS (fun W => PX w W g1 g2 q), (Instr.loadAt 44 (.pointer (some ⟨g1, 0, none⟩))).run Try.prog y.w = .ok (.agg #[.int .u32 q.ep, .int .u32 q.nu, .int .i64 q.ki, .bool q.fi, .bool q.la, .string ⟨q.da.toArray⟩]) y.w := fun y => y.ok.a1.loadAt44
      have hl42 : ∀ y : WS (fun W => PX w W g1 g2 q), (Instr.loadAt 42 (.pointer (some ⟨g2, 0, none⟩))).run Try.prog y.w = .ok (.agg #[.int .u32 q.ep, .int .u32 q.nu, .int .i64 q.ki, .bool q.fi, .bool q.la, .string ⟨q.da.toArray⟩]) y.w := fun y => y.ok.a2.loadAt42
      have heq : ∀ W : World, (binOp .eql 42 (.agg #[.int .u32 q.ep, .int .u32 q.nu, .int .i64 q.ki, .bool q.fi, .bool q.la, .string ⟨q.da.toArray⟩]) (.agg #[.int .u32 q.ep, .int .u32 q.nu, .int .i64 q.ki, .bool q.fi, .bool q.la, .string ⟨q.da.toArray⟩])).run Try.prog W = .ok (.bool true) W := by
        intro W
        simp [go_sem]
      haveI : Nonempty (WS (fun W => PX w W g1 g2 q)) := ⟨⟨w11.drew, HJ1.out⟩⟩
      refine wp_region_ws (fun W => PX w W g1 g2 q) (by kernel_rfl) (by kernel_rfl) HJ1.out ?_
      repeat (first
        | (go_big_quiet_step ((go_at_call 39; exact ws_call (fun W W' h hb => h.step hb) (PL.out _))))
        | (go_big_quiet_want; refine quiet_load 44 _ (by rfl) _ (by rfl) _ hl44 ?_; go_simp; go_big_quiet_on)
        | (go_big_quiet_want; refine quiet_load 42 _ (by rfl) _ (by rfl) _ hl42 ?_; go_simp; go_big_quiet_on))
      refine wpQuiet_nil ?_
      rintro w12 ⟨⟨w13, hw13⟩, hw12⟩
      have HY := Lib.hid (show PX w w12 g1 g2 q by rw [hw12]; exact hw13)
      clear hw12 hw13 hl44 hl42 heq this
      go_wp2_with fail
      go_ret
      exact ⟨rfl, HY.out.below⟩
end Go.Proofs.Ytmaaljfcnnlnpaa
