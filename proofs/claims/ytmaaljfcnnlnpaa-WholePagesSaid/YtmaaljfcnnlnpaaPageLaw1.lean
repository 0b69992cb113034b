/-
  The walk of the law PageBack.
-/
import Derived.Test.YtmaaljfcnnlnpaaPageWalk4
namespace Go.Proofs.Ytmaaljfcnnlnpaa
open Go.RowKit

section
variable {ops : Array Oper} {rest : List Oper} {op : Oper} {a : Act} {w : World} {Q : Exit → Act → World → Prop}
/-- A page written into a new block: the world behind it is a letter. -/
theorem wpList_new44 (hgd : op.guard = none) (x y : Operand) (ho : op.op = .store 44 x y) (w0 : World) (c : Array Value) (hw : w = w0.alloc (.cells c 44)) (hc : c = #[.int .u32 0, .int .u32 0, .int .i64 0, .bool false, .bool false, .string ⟨#[]⟩]) (hx : a.eval x = .pointer (some ⟨w0.heap.size, 0, none⟩))
    (p : Pg) (hy : a.eval y = .agg #[.int .u32 p.ep, .int .u32 p.nu, .int .i64 p.ki, .bool p.fi, .bool p.la, .string ⟨p.da.toArray⟩])
    (h : ∀ W', PgAt W' w0.heap.size 0 p → Below w0.heap.size w0 W' → w0.heap.size < W'.heap.size → wpList Try.prog ops Q rest (a.put op.dst undef) W') : wpList Try.prog ops Q (op :: rest) a w := by
  subst hw hc
  have hz : PgAt (w0.alloc (.cells #[.int .u32 0, .int .u32 0, .int .i64 0, .bool false, .bool false, .string ⟨#[]⟩] 44)) w0.heap.size 0 noPg := by
    refine ⟨?_, ?_, ?_, ?_, ?_, ?_⟩ <;> rw [World.cell?_alloc_new] <;> rfl
  have hf : ∀ i, (w0.alloc (.cells #[.int .u32 0, .int .u32 0, .int .i64 0, .bool false, .bool false, .string ⟨#[]⟩] 44)).frozen? ⟨w0.heap.size, i, none⟩ = false := fun i => World.frozen?_alloc_new _ _ _ _
  refine wpList_store44 hgd x y ho w0.heap.size 0 hx p hy noPg hz hf ?_
  refine h _ (hz.set hf p) (below_setCells (Nat.le_refl _) _ _ _ ((Below.refl _ _).alloc (Nat.le_refl _) _)) ?_
  rw [heap_size_setCells]; simp
end

/-- The worlds of the page laws' walks. -/
structure PB (w W : World) (p : Pg) : Prop where
  below : Below w.heap.size w W
  pg : PgAt W w.heap.size 0 p
  lp : w.heap.size < W.heap.size

theorem PB.step {w W W' : World} {p : Pg} (h : PB w W p) (hb : Below W.heap.size W W') : PB w W' p :=
  ⟨h.below.trans (hb.mono h.below.size), h.pg.below hb h.lp, Nat.lt_of_lt_of_le h.lp hb.size⟩

theorem PB.start (w : World) (p : Pg) (t : TypeId) : PB w (w.alloc (.cells #[.int .u32 p.ep, .int .u32 p.nu, .int .i64 p.ki, .bool p.fi, .bool p.la, .string ⟨p.da.toArray⟩] t)) p :=
  ⟨(Below.refl _ _).alloc (Nat.le_refl _) _, by refine ⟨?_, ?_, ?_, ?_, ?_, ?_⟩ <;> rw [World.cell?_alloc_new] <;> rfl, by simp⟩

/-- .. with two pages more. -/
structure PB2 (w W : World) (p : Pg) (g1 g2 : Nat) (q : Pg) : Prop where
  pb : PB w W p
  p1 : PgAt W g1 0 p
  p2 : PgAt W g2 0 q
  l1 : g1 < W.heap.size
  l2 : g2 < W.heap.size

theorem PB2.step {w W W' : World} {p q : Pg} {g1 g2 : Nat} (h : PB2 w W p g1 g2 q) (hb : Below W.heap.size W W') : PB2 w W' p g1 g2 q :=
  ⟨h.pb.step hb, h.p1.below hb h.l1, h.p2.below hb h.l2, Nat.lt_of_lt_of_le h.l1 hb.size, Nat.lt_of_lt_of_le h.l2 hb.size⟩

set_option maxRecDepth 100000 in
set_option maxHeartbeats 4000000 in
theorem pageBack_walk (p : Pg) (n1 n2 : Nat) (h1 : n1 < 256) (h2 : n2 < 256) (he : p.ep < 4294967296) (hn : p.nu < 4294967296) (hm : p.da.length ≤ maxLen) (w : World) :
    Calls Try.prog 16 #[.agg #[.int .u32 p.ep, .int .u32 p.nu, .int .i64 p.ki, .bool p.fi, .bool p.la, .string ⟨p.da.toArray⟩], .int .u8 n1, .int .u8 n2] w fun e w' => e = .returned (.bool true) ∧ Below w.heap.size w w' := by
  have A := Lib.hid (fun W => awake17 W)
  have O := Lib.hid (fun W => of17_any p W)
  have L := Lib.hid (fun W => lay_val p hm he hn W)
  have R := Lib.hid (fun W => right_any p hm W)
  have S0 := Lib.hid (PB.start w p 42)
  have hsz : (ByteArray.mk p.da.toArray).size = p.da.length := by simp [ByteArray.size]
  go_enter Try.func16, Try.ntmps16
  go_wp2_with fail
  refine (A.out _).mono ?_
  rintro e w1 ⟨rfl, hb⟩
  have S1 := S0.out.step hb
  clear hb S0
  obtain ⟨q0, q1, q2, q3, q4, q5⟩ := S1.pg
  simp only [Nat.zero_add] at q0 q1 q2 q3 q4 q5
  by_cases hlen : 200 < p.da.length
  · have HS1 := Lib.hid S1
    clear S1
    go_wp2_with fail
    refine (A.out _).mono ?_
    rintro e w2 ⟨rfl, hb⟩
    go_wp2_with fail
    go_ret
    exact ⟨rfl, (HS1.out.step hb).below⟩
  · have HS1 := Lib.hid S1
    clear S1
    go_wp2_with fail
    refine (O.out _).mono ?_
    rintro e w2 ⟨rfl, hb⟩
    have HS2 := Lib.hid (HS1.out.step hb)
    clear hb q0 q1 q2 q3 q4 q5 HS1
    go_wp2_with fail
    refine (L.out _).mono ?_
    rintro e w3 ⟨rfl, hb⟩
    have HS3 := Lib.hid (HS2.out.step hb)
    clear hb HS2
    by_cases hr : p.right = true
    · obtain ⟨hk, hd1, hd2⟩ := right_ki p hr
      obtain ⟨bs, hbs⟩ : ∃ bs, layB p = bs := ⟨_, rfl⟩
      have hl : bs.length = 64 := by rw [← hbs]; exact layB_length p hd2
      have HD := Lib.hid (read_lay p hr he hn)
      have HSU := Lib.hid (lay_summed p)
      rw [hbs] at HD HSU
      rw [if_pos hr, if_pos hr, hbs]
      have R1 := Lib.hid (fun W => read_val bs hl p 0 HD.out W)
      go_wp2_with (first
        | (refine wpList_new56 (by rfl) _ _ (by rfl) _ _ rfl (by rfl) (by rfl) bs (by rfl) hl ?_; intro w4 hbuf hw4 hlt4; have HB := Lib.hid hbuf; have HS4 := Lib.hid (HS3.out.step hw4); clear hbuf hw4)
        | refine wpList_load56g _ (by rfl) (by rfl) _ (by rfl) bs HB.out ?_)
      refine (R1.out _).mono ?_
      rintro e w5 ⟨rfl, hb⟩
      have hgb : w.heap.size < w3.heap.size := HS3.out.lp
      have hgb5 : w3.heap.size < w5.heap.size := Nat.lt_of_lt_of_le hlt4 hb.size
      have HS5 := Lib.hid (HS4.out.step hb)
      have HB5 := Lib.hid (HB.out.step hb)
      clear hb HS4 HB
      generalize hgg : w3.heap.size = gb at *
      clear hgg
      obtain ⟨x, hx⟩ : ∃ x, bs.getD (n1 % 64) 0 = x := ⟨_, rfl⟩
      obtain ⟨yn, hyn⟩ : ∃ yn, x.toNat ^^^ n2 = yn := ⟨_, rfl⟩
      have hyb : yn < 256 := by rw [← hyn]; exact Nat.xor_lt_two_pow (n := 8) x.toNat_lt h2
      have hxor : bits BinOp.xor IntKind.u8 (x.toNat : Int) (n2 : Int) = (yn : Int) := by rw [← hyn]; exact u8_xor_nat _ _ x.toNat_lt h2
      have HY : Hid ((Value.int .u8 (yn : Int)) = bv (UInt8.ofNat yn)) := Lib.hid <| by
        have : (UInt8.ofNat yn).toNat = yn := by simp; omega
        unfold bv; rw [this]
      have HXX := Lib.hid hx
      have hl1 : (bs.set (n1 % 64) (UInt8.ofNat yn)).length = 64 := by simpa using hl
      obtain ⟨q, e2, hR2, hqe⟩ : ∃ q e2, readB (bs.set (n1 % 64) (UInt8.ofNat yn)) = (q, e2) ∧ (n2 = 0 ∧ p = q ∧ e2 = 0 ∨ n2 ≠ 0 ∧ q = noPg ∧ e2 = 3) := by
        have hxe : x = bs[n1 % 64] := by rw [← hx, List.getD_eq_getElem?_getD, List.getElem?_eq_getElem (by omega)]; rfl
        by_cases h0 : n2 = 0
        · refine ⟨p, 0, ?_, .inl ⟨h0, rfl, rfl⟩⟩
          have : UInt8.ofNat yn = bs[n1 % 64] := by rw [← hyn, h0, Nat.xor_zero, ← hxe]; simp
          rw [this, List.set_getElem_self]
          exact HD.out
        · refine ⟨noPg, 3, read_3 _ (changed bs hl HSU.out (n1 % 64) (by omega) _ ?_), .inr ⟨h0, rfl, rfl⟩⟩
          rw [← hxe]
          intro h3
          have h4 : yn = x.toNat := by rw [← h3]; simp; omega
          apply h0
          have := congrArg (x.toNat ^^^ ·) (hyn.trans h4)
          simpa [← Nat.xor_assoc] using this
      obtain ⟨bs1, hbs1⟩ : ∃ b, bs.set (n1 % 64) (UInt8.ofNat yn) = b := ⟨_, rfl⟩
      have HX1 := Lib.hid hbs1
      rw [hbs1] at hR2 hl1
      have R2 := Lib.hid (fun W => read_val bs1 hl1 q e2 hR2 W)
      clear hx hyn hbs hbs1 hR2
      go_wp2_with (first
        | (refine wpList_new44 (by rfl) _ _ (by rfl) _ _ rfl (by rfl) (by rfl) p (by rfl) ?_; intro w6 hpg hw6 hlt6; have HQ := Lib.hid hpg; have HS6 := Lib.hid (HS5.out.step hw6); have HB6 := Lib.hid (HB5.out.step hw6); clear hpg hw6; have ci := HB6.out.cell_of (n1 % 64) x (by omega) HXX.out; have fi := HB6.out.frozen)
        | (refine wpList_load56g _ (by rfl) (by rfl) _ (by rfl) bs1 (by rw [HY.out, ← HX1.out]; exact HB6.out.set _ _) ?_))
      have HS7 : Hid (PB w (w6.setCell ⟨gb, n1 % 64, none⟩ (.int .u8 (yn : Int))) p) := Lib.hid ⟨HS6.out.below.setCell (Nat.le_of_lt hgb) _, HS6.out.pg.far (by omega) (n1 % 64) [.int .u8 (yn : Int)], by simpa [World.setCell] using HS6.out.lp⟩
      have HQ7 : Hid (PgAt (w6.setCell ⟨gb, n1 % 64, none⟩ (.int .u8 (yn : Int))) w5.heap.size 0 p) := Lib.hid (HQ.out.far (by omega) (n1 % 64) [.int .u8 (yn : Int)])
      refine (R2.out _).mono ?_
      rintro e w8 ⟨rfl, hb⟩
      have HS8 := Lib.hid (HS7.out.step hb)
      have HQ8 := Lib.hid (HQ7.out.below hb (by simpa [World.setCell] using hlt6))
      have hlt8 : w5.heap.size < w8.heap.size := Nat.lt_of_lt_of_le (by simpa [World.setCell] using hlt6) hb.size
      clear hb ci fi HS7 HQ7 HQ HS6 HB6
      generalize w5.heap.size = gq at *
      go_wp2_with (first
        | (refine wpList_new44 (by rfl) _ _ (by rfl) _ _ rfl (by rfl) (by rfl) q (by rfl) ?_; intro w9 hpg hw9 hlt9; have HJ := Lib.hid (show PB2 w w9 p gq w8.heap.size q from ⟨HS8.out.step hw9, HQ8.out.below hw9 hlt8, hpg, Nat.lt_of_lt_of_le hlt8 hw9.size, hlt9⟩); clear hpg hw9))
      have J0 : PB2 w w9.drew p gq w8.heap.size q := HJ.out.step (Below.refl _ _).drew
      have HJ0 := Lib.hid J0
      clear J0
      generalize w8.heap.size = gr at *
      have heq : ∀ W : World, (binOp .eql 42 (.agg #[.int .u32 p.ep, .int .u32 p.nu, .int .i64 p.ki, .bool p.fi, .bool p.la, .string ⟨p.da.toArray⟩]) (.agg #[.int .u32 p.ep, .int .u32 p.nu, .int .i64 p.ki, .bool p.fi, .bool p.la, .string ⟨p.da.toArray⟩])).run Try.prog W = .ok (.bool true) W := by
        intro W
        simp [go_sem]
      have hlq : ∀ y : WS (fun W => PB2 w W p gq gr q), (Instr.loadAt 44 (.pointer (some ⟨gq, 0, none⟩))).run Try.prog y.w = .ok (.agg #[.int .u32 p.ep, .int .u32 p.nu, .int .i64 p.ki, .bool p.fi, .bool p.la, .string ⟨p.da.toArray⟩]) y.w := fun y => y.ok.p1.loadAt44
      have hlp : ∀ y : WS (fun W => PB2 w W p gq gr q), (Instr.loadAt 42 (.pointer (some ⟨w.heap.size, 0, none⟩))).run Try.prog y.w = .ok (.agg #[.int .u32 p.ep, .int .u32 p.nu, .int .i64 p.ki, .bool p.fi, .bool p.la, .string ⟨p.da.toArray⟩]) y.w := fun y => y.ok.pb.pg.loadAt42
      have PL := Lib.hid (fun W => plain_pg p W)
      haveI : Nonempty (WS (fun W => PB2 w W p gq gr q)) := ⟨⟨w9.drew, HJ0.out⟩⟩
      rcases hqe with ⟨rfl, rfl, rfl⟩ | ⟨hn0, rfl, rfl⟩
      · refine wp_region_ws (fun W => PB2 w W p gq gr p) (by kernel_rfl) (by kernel_rfl) HJ0.out ?_
        repeat (first
          | (go_big_quiet_step ((go_at_call 39; exact ws_call (fun W W' h hb => h.step hb) (PL.out _))))
          | (go_big_quiet_want; refine quiet_load 44 _ (by rfl) _ (by rfl) _ hlq ?_; go_simp; go_big_quiet_on)
          | (go_big_quiet_want; refine quiet_load 42 _ (by rfl) _ (by rfl) _ hlp ?_; go_simp; go_big_quiet_on))
        refine wpQuiet_nil ?_
        rintro _ ⟨⟨W, hW⟩, rfl⟩
        have HW := Lib.hid hW
        clear hW hlq hlp heq this
        go_wp2_with fail
        go_ret
        exact ⟨rfl, HW.out.pb.below⟩
      · have hn1 : ((n2 : Int) == 0) = false := by simp; omega
        have hn2 : ((n2 : Int) != 0) = true := by simp; omega
        have hlr : ∀ y : WS (fun W => PB2 w W p gq gr noPg), (Instr.loadAt 44 (.pointer (some ⟨gr, 0, none⟩))).run Try.prog y.w = .ok (.agg #[.int .u32 0, .int .u32 0, .int .i64 0, .bool false, .bool false, .string ⟨#[]⟩]) y.w := fun y => y.ok.p2.loadAt44
        refine wp_region_ws (fun W => PB2 w W p gq gr noPg) (by kernel_rfl) (by kernel_rfl) HJ0.out ?_
        repeat (first
          | (go_big_quiet_step ((go_at_call 39; exact ws_call (fun W W' h hb => h.step hb) (PL.out _))))
          | (go_big_quiet_want; refine quiet_load 44 _ (by rfl) _ (by rfl) _ hlq ?_; go_simp; go_big_quiet_on)
          | (go_big_quiet_want; refine quiet_load 44 _ (by rfl) _ (by rfl) _ hlr ?_; go_simp; go_big_quiet_on)
          | (go_big_quiet_want; refine quiet_load 42 _ (by rfl) _ (by rfl) _ hlp ?_; go_simp; go_big_quiet_on))
        refine wpQuiet_nil ?_
        rintro _ ⟨⟨W, hW⟩, rfl⟩
        have HW := Lib.hid hW
        clear hW hlq hlp hlr heq this
        go_wp2_with fail
        go_ret
        exact ⟨rfl, HW.out.pb.below⟩
    · have hr0 : p.right = false := by simpa using hr
      have heqz : ∀ W, (binOp .eql 56 (.agg (zero64.map bv).toArray) (.agg (zero64.map bv).toArray)).run Try.prog W = .ok (.bool true) W := fun W => run_eql56 W zero64 zero64 rfl rfl
      rw [hr0] at R ⊢
      simp only [Bool.false_eq_true, if_false]
      go_wp2_with (first
        | (refine wpList_new56 (by rfl) _ _ (by rfl) _ _ rfl (by rfl) (by rfl) zero64 (by rfl) rfl ?_; intro w4 hbuf hw4 hlt4; have HB := Lib.hid hbuf; have HS4 := Lib.hid (HS3.out.step hw4); clear hbuf hw4)
        | refine wpList_load56g _ (by rfl) (by rfl) _ (by rfl) zero64 HB.out ?_
        | refine wpList_zero56 (by rfl) (by rfl) ?_
        | refine wpList_load42g _ (by rfl) (by rfl) _ 0 (by rfl) p HS4.out.pg ?_)
      refine (O.out _).mono ?_
      rintro e w5 ⟨rfl, hb⟩
      have HS5 := Lib.hid (HS4.out.step hb)
      clear hb HS4
      go_wp2_with fail
      refine (R.out _).mono ?_
      rintro e w6 ⟨rfl, hb⟩
      go_wp2_with fail
      go_ret
      exact ⟨rfl, (HS5.out.step hb).below⟩
end Go.Proofs.Ytmaaljfcnnlnpaa
