/-
  The walk of the law PageHeads.
-/
import Derived.Test.YtmaaljfcnnlnpaaPageLaw3
namespace Go.Proofs.Ytmaaljfcnnlnpaa
open Go.RowKit

/-- The worlds of the law's walk: a page and its bytes. -/
structure PC (w W : World) (p : Pg) (g : Nat) (bs : List UInt8) : Prop where
  pb : PB w W p
  buf : Buf W g bs
  gt : w.heap.size < g
theorem PC.step {w W W' : World} {p : Pg} {g : Nat} {bs : List UInt8} (h : PC w W p g bs) (hb : Below W.heap.size W W') : PC w W' p g bs :=
  ⟨h.pb.step hb, h.buf.step hb, h.gt⟩
theorem PC.set {w W : World} {p : Pg} {g : Nat} {bs : List UInt8} (h : PC w W p g bs) (j : Nat) (x : UInt8) : PC w (W.setCell ⟨g, j, none⟩ (bv x)) p g (bs.set j x) :=
  ⟨⟨h.pb.below.setCell (Nat.le_of_lt h.gt) _, h.pb.pg.far (by have := h.gt; omega) j [bv x], by simpa [World.setCell] using h.pb.lp⟩, h.buf.set j x, h.gt⟩

/-- .. and another page. -/
structure PD (w W : World) (p : Pg) (g : Nat) (q : Pg) : Prop where
  pb : PB w W p
  pq : PgAt W g 0 q
  lq : g < W.heap.size
theorem PD.step {w W W' : World} {p q : Pg} {g : Nat} (h : PD w W p g q) (hb : Below W.heap.size W W') : PD w W' p g q :=
  ⟨h.pb.step hb, h.pq.below hb h.lq, Nat.lt_of_lt_of_le h.lq hb.size⟩

theorem bv_ofNat (n : Nat) (h : n < 256) : bv (UInt8.ofNat n) = .int .u8 (n : Int) := by
  have : (UInt8.ofNat n).toNat = n := by simp; omega
  unfold bv; rw [this]

set_option maxRecDepth 100000 in
set_option maxHeartbeats 4000000 in
theorem pageHeads_walk (p : Pg) (n1 n2 : Nat) (h1 : n1 < 256) (h2 : n2 < 256) (he : p.ep < 4294967296) (hn : p.nu < 4294967296) (hm : p.da.length ≤ maxLen) (w : World) :
    Calls Try.prog 20 #[.agg #[.int .u32 p.ep, .int .u32 p.nu, .int .i64 p.ki, .bool p.fi, .bool p.la, .string ⟨p.da.toArray⟩], .int .u8 n1, .int .u8 n2] w fun e w' => e = .returned (.bool true) ∧ Below w.heap.size w w' := by
  have A := Lib.hid (fun W => awake17 W)
  have O := Lib.hid (fun W => of17_any p W)
  have L := Lib.hid (fun W => lay_val p hm he hn W)
  have S0 := Lib.hid (PB.start w p 42)
  have hsz : (ByteArray.mk p.da.toArray).size = p.da.length := by simp [ByteArray.size]
  go_enter Try.func20, Try.ntmps20
  go_wp2_with fail
  refine (A.out _).mono ?_
  rintro e w1 ⟨rfl, hb⟩
  have S1 := S0.out.step hb
  clear hb S0
  have q5 := S1.pg.c5
  simp only [Nat.zero_add] at q5
  have HS1 := Lib.hid S1
  clear S1
  by_cases hlen : 200 < p.da.length
  · go_wp2_with fail
    refine (A.out _).mono ?_
    rintro e w2 ⟨rfl, hb⟩
    go_wp2_with fail
    go_ret
    exact ⟨rfl, (HS1.out.step hb).below⟩
  · go_wp2_with (refine wpList_load42g _ (by rfl) (by rfl) _ 0 (by rfl) p HS1.out.pg ?_)
    refine (O.out _).mono ?_
    rintro e w2 ⟨rfl, hb⟩
    have HS2 := Lib.hid (HS1.out.step hb)
    clear hb q5 HS1
    go_wp2_with fail
    refine (L.out _).mono ?_
    rintro e w3 ⟨rfl, hb⟩
    have HS3 := Lib.hid (HS2.out.step hb)
    clear hb HS2
    by_cases hr : p.right = true
    · obtain ⟨hk, hd1, hd2⟩ := right_ki p hr
      obtain ⟨bs, hbs⟩ : ∃ bs, layB p = bs := ⟨_, rfl⟩
      have hl : bs.length = 64 := by rw [← hbs]; exact layB_length p hd2
      have HH := Lib.hid (heads p hr he hn (UInt8.ofNat n1) (UInt8.ofNat n2))
      rw [hbs] at HH
      rw [if_pos hr, if_pos hr, hbs]
      clear hbs
      go_upto_region 6 with (first
        | (refine wpList_new56 (by rfl) _ _ (by rfl) _ _ rfl (by rfl) (by rfl) bs (by rfl) hl ?_; intro w4 hbuf hw4 hlt4; have HC4 := Lib.hid (show PC w w4 p w3.heap.size bs from ⟨HS3.out.step hw4, hbuf, HS3.out.lp⟩); clear hbuf hw4))
      have c12 := HC4.out.buf.cell 12 (by omega)
      have c14 := HC4.out.buf.cell 14 (by omega)
      have f12 := HC4.out.buf.frozen
      generalize w3.heap.size = g at *
      obtain ⟨b2, hb2⟩ : ∃ b2, (bs.set 12 (UInt8.ofNat n1)).set 14 (UInt8.ofNat n2) = b2 := ⟨_, rfl⟩
      have hl2 : b2.length = 64 := by rw [← hb2]; simpa using hl
      go_cut [6] from 31 to 34 (fun a6 wx => a6 = .bool false ∧ PC w wx p g b2)
      case first =>
        go_wp2_with fail
        go_meet
        case rel =>
          refine ⟨rfl, ?_⟩
          rw [← hb2, ← bv_ofNat n1 h1, ← bv_ofNat n2 h2]
          exact (HC4.out.set 12 _).set 14 _
      case rest =>
        obtain ⟨rfl, hcut⟩ := hcut
        have HS1 := Lib.hid hcut
        rw [hb2] at HH
        have HB2 := Lib.hid hb2
        clear hcut c12 c14 f12 HC4 hb2
        generalize wc = w1 at *
        obtain ⟨f, hf⟩ : ∃ f, four (CrcP.sum (b2.drop 4)) = f := ⟨_, rfl⟩
        have hfl : f.length = 4 := by rw [← hf]; rfl
        have F := Lib.hid (fun W => reffour_any (CrcP.sum (b2.drop 4)) (CrcP.sum_lt _) W)
        have S := Lib.hid (fun W => refsum_any ⟨(b2.drop 4).toArray⟩ (by unfold maxLen; simp [ByteArray.size]; omega) W)
        rw [hf] at F
        have HF := Lib.hid hf
        clear hf
        have hsf : (ByteArray.mk f.toArray).size = 4 := by simpa [ByteArray.size] using hfl
        have hcv : (convert 25 9 (.slice (some ⟨g, 4, none⟩) 60 60)).run Try.prog w1 = .ok (.string ⟨(b2.drop 4).toArray⟩) w1 := by
          have := HS1.out.buf.bytesFrom 4 60
          rw [List.take_of_length_le (by simp; omega)] at this
          exact run_bytes_str this (by simp; omega)
        go_wp2_with fail
        refine (S.out _).mono ?_
        rintro e w2 ⟨rfl, rfl⟩
        go_wp2_with fail
        refine (F.out _).mono ?_
        rintro e w2 ⟨rfl, hb⟩
        have HS2 := Lib.hid (HS1.out.step hb)
        clear hb HS1 hcv
        go_wp2_with fail
        go_loopw [10, 39, 40, 41, 42, 43, 44, 45, 46, 47] (fun a10 _ _ _ _ _ _ _ _ _ wr => ∃ k : Nat, k ≤ 4 ∧ a10 = .int .i64 k ∧ PC w wr p g (mid f b2 k)) (fun a10 _ _ _ _ _ _ _ _ _ _ => 4 - (intOf a10).toNat)
        case atStart => exact ⟨0, by omega, rfl, by rw [mid_zero]; exact HS2.out⟩
        case round =>
          obtain ⟨k, hk, rfl, hB⟩ := hrel
          by_cases hlt : k < 4
          · have hkf : k < f.length := by omega
            have ck := hB.buf.cell k (by rw [mid_length _ _ _ (by omega) (by omega)]; omega)
            have fk := hB.buf.frozen
            have hgk : (ByteArray.mk f.toArray)[k]'(by rw [hsf]; exact hlt) = f[k] := bytesArr_get f k hkf _
            have HB := Lib.hid hB
            clear hB
            go_wp2_with fail
            refine ⟨⟨k + 1, by omega, by simp, ?_⟩, ?_⟩
            · rw [← mid_set f b2 k hkf (by omega)]
              exact HB.out.set k f[k]
            · simp only [intOf]; omega
          · have hk4 : k = 4 := by omega
            subst hk4
            have hl1 : (resum b2).length = 64 := resum_length b2 hl2
            have hB1 : PC w wr p g (resum b2) := by
              have e : mid f b2 4 = resum b2 := by rw [mid_four _ _ hfl, ← HF.out]; rfl
              rwa [e] at hB
            have hsu := resum_summed b2
            have HB := Lib.hid hB1
            clear hB hB1
            generalize resum b2 = b1 at *
            rcases read_cases b1 hsu with hr | ⟨hr, hri, _⟩
            · have R : ∀ W, Calls Try.prog 44 #[.agg (b1.map bv).toArray] W fun r w' => r = .returned (.tuple #[.agg #[.int .u32 0, .int .u32 0, .int .i64 0, .bool false, .bool false, .string ⟨#[]⟩], .int .i64 4]) ∧ Below W.heap.size W w' := fun W => read_val b1 hl1 noPg 4 hr W
              have HR := Lib.hid R
              clear R hr hsu
              go_wp2_with (refine wpList_load56g _ (by rfl) (by rfl) _ (by rfl) b1 HB.out.buf ?_)
              refine (HR.out _).mono ?_
              rintro e w3 ⟨rfl, hb⟩
              have HB3 := Lib.hid (HB.out.step hb)
              clear hb HB
              go_wp2_with fail
              go_ret
              exact ⟨rfl, HB3.out.pb.below.alloc HB3.out.pb.below.size _⟩
            · obtain ⟨g1, g2, g3, g4⟩ := HH.out _ hr
              generalize parse b1 = q at *
              have R := Lib.hid (fun W => read_val b1 hl1 q 0 hr W)
              have ek : (UInt8.ofNat n1).toNat = n1 := by simp; omega
              have el : (UInt8.ofNat n2).toNat = n2 := by simp; omega
              rw [ek, el] at g4
              rw [ek] at g2
              rw [el] at g3
              have G := Lib.hid (And.intro g1 (And.intro g2 (And.intro g3 g4)))
              clear hr hsu hri g1 g2 g3 g4 ek el
              go_wp2_with (refine wpList_load56g _ (by rfl) (by rfl) _ (by rfl) b1 HB.out.buf ?_)
              refine (R.out _).mono ?_
              rintro e w3 ⟨rfl, hb⟩
              have HB3 := Lib.hid (HB.out.step hb)
              clear hb HB
              go_upto_region 15 with (refine wpList_new44 (by rfl) _ _ (by rfl) _ _ rfl (by rfl) (by rfl) q (by rfl) ?_; intro w4 hpg hw4 hlt4; have HD := Lib.hid (show PD w w4 p w3.heap.size q from ⟨HB3.out.pb.step hw4, hpg, hlt4⟩); clear hpg hw4)
              have k2 := HD.out.pb.pg.c2
              have k5 := HD.out.pb.pg.c5
              simp only [Nat.zero_add] at k2 k5
              have hw1 : IntKind.i64.wrap (n1 : Int) = n1 := wrap_small n1 (by omega)
              have hw2 : IntKind.i64.wrap (n2 : Int) = n2 := wrap_small n2 (by omega)
              generalize w3.heap.size = gq at *
              go_cut [13] from 53 to 69 (fun a13 wx => a13 = .bool (decide (q = p)) ∧ wx = w4)
              case first =>
                by_cases e1 : (n1 : Int) = p.ki
                · by_cases e2 : n2 = p.da.length
                  · have hd : decide (q = p) = true := decide_eq_true (G.out.2.2.2.2 ⟨e1, e2⟩)
                    go_wp2_with fail
                    go_meet
                    case rel => exact ⟨by rw [hd], rfl⟩
                  · have hd : decide (q = p) = false := decide_eq_false (fun h => e2 (G.out.2.2.2.1 h).2)
                    go_wp2_with fail
                    go_meet
                    case rel => exact ⟨by rw [hd]; congr 1; simp; omega, rfl⟩
                · have hd : decide (q = p) = false := decide_eq_false (fun h => e1 (G.out.2.2.2.1 h).1)
                  go_wp2_with fail
                  go_meet
                  case rel => exact ⟨by rw [hd], rfl⟩
              case rest =>
                obtain ⟨rfl, rfl⟩ := hcut
                have HD0 : PD w wc.drew p gq q := HD.out.step (Below.refl _ _).drew
                have HJ0 := Lib.hid HD0
                clear HD0
                obtain ⟨x, hx⟩ : ∃ x, decide (q = p) = x := ⟨_, rfl⟩
                have hpq := fun W => run_eq42 q p W
                rw [hx] at hpq ⊢
                clear hx k2 k5
                have hsq : (ByteArray.mk q.da.toArray).size = n2 := by rw [← G.out.2.2.1]; simp [ByteArray.size]
                have PL := Lib.hid (fun W => plain_pg q W)
                have hl3 : ∀ y : WS (fun W => PD w W p gq q), (Instr.loadAt 42 (.pointer (some ⟨w.heap.size, 0, none⟩))).run Try.prog y.w = .ok (.agg #[.int .u32 p.ep, .int .u32 p.nu, .int .i64 p.ki, .bool p.fi, .bool p.la, .string ⟨p.da.toArray⟩]) y.w := fun y => y.ok.pb.pg.loadAt42
                have hl4 : ∀ y : WS (fun W => PD w W p gq q), (Instr.loadAt 44 (.pointer (some ⟨gq, 0, none⟩))).run Try.prog y.w = .ok (.agg #[.int .u32 q.ep, .int .u32 q.nu, .int .i64 q.ki, .bool q.fi, .bool q.la, .string ⟨q.da.toArray⟩]) y.w := fun y => y.ok.pq.loadAt44
                have hx5 : ∀ y : WS (fun W => PD w W p gq q), y.w.cell? ⟨gq, 5, none⟩ = some (.string ⟨q.da.toArray⟩) := fun y => y.ok.pq.c5
                haveI : Nonempty (WS (fun W => PD w W p gq q)) := ⟨⟨wc.drew, HJ0.out⟩⟩
                obtain ⟨hq1, hq2, hq3⟩ := right_ki q G.out.1
                have hki := G.out.2.1
                rcases hq1 with ⟨a1, a2, a3⟩ | a1
                · obtain rfl : n1 = 1 := by omega
                  have hx2 : ∀ y : WS (fun W => PD w W p gq q), y.w.cell? ⟨gq, 2, none⟩ = some (.int .i64 1) := fun y => by rw [y.ok.pq.c2, a1]
                  have hx3 : ∀ y : WS (fun W => PD w W p gq q), y.w.cell? ⟨gq, 3, none⟩ = some (.bool false) := fun y => by rw [y.ok.pq.c3, a2]
                  have hx4 : ∀ y : WS (fun W => PD w W p gq q), y.w.cell? ⟨gq, 4, none⟩ = some (.bool false) := fun y => by rw [y.ok.pq.c4, a3]
                  clear a1 a2 a3 hki hq2 hq3
                  go_wp2_with fail
                  refine wp_region_ws (fun W => PD w W p gq q) (by kernel_rfl) (by kernel_rfl) HJ0.out ?_
                  repeat (first
                    | (go_big_quiet_step ((go_at_call 39; exact ws_call (fun W W' h hb => h.step hb) (PL.out _))))
                    | (go_big_quiet_want; refine quiet_load 44 _ (by rfl) _ (by rfl) _ hl4 ?_; go_simp; go_big_quiet_on)
                    | (go_big_quiet_want; refine quiet_load 42 _ (by rfl) _ (by rfl) _ hl3 ?_; go_simp; go_big_quiet_on))
                  refine wpQuiet_nil ?_
                  rintro _ ⟨⟨W, hW⟩, rfl⟩
                  have HW := Lib.hid hW
                  clear hW hl3 hl4 hx5 hx2 hx3 hx4 hpq this
                  go_wp2_with fail
                  go_ret
                  exact ⟨rfl, HW.out.pb.below⟩
                · obtain rfl : n1 = 2 := by omega
                  have hx2 : ∀ y : WS (fun W => PD w W p gq q), y.w.cell? ⟨gq, 2, none⟩ = some (.int .i64 2) := fun y => by rw [y.ok.pq.c2, a1]
                  clear a1 hki hq2 hq3
                  go_wp2_with fail
                  refine wp_region_ws (fun W => PD w W p gq q) (by kernel_rfl) (by kernel_rfl) HJ0.out ?_
                  repeat (first
                    | (go_big_quiet_step ((go_at_call 39; exact ws_call (fun W W' h hb => h.step hb) (PL.out _))))
                    | (go_big_quiet_want; refine quiet_load 44 _ (by rfl) _ (by rfl) _ hl4 ?_; go_simp; go_big_quiet_on)
                    | (go_big_quiet_want; refine quiet_load 42 _ (by rfl) _ (by rfl) _ hl3 ?_; go_simp; go_big_quiet_on))
                  refine wpQuiet_nil ?_
                  rintro _ ⟨⟨W, hW⟩, rfl⟩
                  have HW := Lib.hid hW
                  clear hW hl3 hl4 hx5 hx2 hpq this
                  go_wp2_with fail
                  go_ret
                  exact ⟨rfl, HW.out.pb.below⟩
    · rw [if_neg hr, if_neg hr]
      go_wp2_with (refine wpList_new56 (by rfl) _ _ (by rfl) _ _ rfl (by rfl) (by rfl) zero64 (by rfl) rfl ?_; intro w4 hbuf hw4 hlt4; have HS4 := Lib.hid (HS3.out.step hw4); clear hbuf hw4)
      go_ret
      exact ⟨rfl, HS4.out.below⟩
end Go.Proofs.Ytmaaljfcnnlnpaa
