/-
  The walk of the document's Read of a page.
-/
import Derived.Test.YtmaaljfcnnlnpaaPageWalk5
import Derived.Test.YtmaaljfcnnlnpaaWsTail
namespace Go.Proofs.Ytmaaljfcnnlnpaa
open Go.RowKit

section
variable {ops : Array Oper} {rest : List Oper} {op : Oper} {a : Act} {w : World} {Q : Exit → Act → World → Prop}
theorem wpList_store42 (hgd : op.guard = none) (x y : Operand) (ho : op.op = .store 42 x y) (g o : Nat) (hx : a.eval x = .pointer (some ⟨g, o, none⟩)) (p' : Pg)
    (hy : a.eval y = .agg #[.int .u32 p'.ep, .int .u32 p'.nu, .int .i64 p'.ki, .bool p'.fi, .bool p'.la, .string ⟨p'.da.toArray⟩]) (p : Pg) (hb : PgAt w g o p) (hf : ∀ i, w.frozen? ⟨g, i, none⟩ = false)
    (h : wpList Try.prog ops Q rest (a.put op.dst undef) (w.setCells g o (pgC p'))) : wpList Try.prog ops Q (op :: rest) a w :=
  wpList_store_mid hgd 42 x y ho g o #[.int .u32 p'.ep, .int .u32 p'.nu, .int .i64 p'.ki, .bool p'.fi, .bool p'.la, .string ⟨p'.da.toArray⟩] hx hy (hb.there hf) info42s (by simp [Value.oneCell']) h
end
theorem mod2_beq (m : Nat) : (((m : Int) % 2) == 1) = (m % 2 == 1) := by
  by_cases h : m % 2 = 1
  · have h2 : (m : Int) % 2 = 1 := by omega
    rw [h, h2]; rfl
  · have h2 : ¬ (m : Int) % 2 = 1 := by omega
    rw [beq_eq_false_iff_ne.2 h, beq_eq_false_iff_ne.2 h2]
theorem le2_dec (m : Nat) : decide (2 ≤ (m : Int)) = decide (2 ≤ m) := decide_eq_decide.2 (by omega)
theorem PgAt.loadVar42 {W : World} {b o : Nat} {p : Pg} (h : PgAt W b o p) : (loadVar 42 ⟨b, o, none⟩).run Try.prog W = .ok (.agg #[.int .u32 p.ep, .int .u32 p.nu, .int .i64 p.ki, .bool p.fi, .bool p.la, .string ⟨p.da.toArray⟩]) W :=
  run_loadVar_mid W b o 42 (pgC p) _ h.range Try.underlying42 rfl info42s

set_option maxRecDepth 100000 in
set_option maxHeartbeats 4000000 in
theorem refread_any (bs : List UInt8) (hl : bs.length = 64) (w : World) :
    Calls Try.prog 63 #[.agg (bs.map bv).toArray] w fun r w' => r = .returned (.tuple #[.agg #[.int .u32 (refRead bs).1.ep, .int .u32 (refRead bs).1.nu, .int .i64 (refRead bs).1.ki, .bool (refRead bs).1.fi, .bool (refRead bs).1.la, .string ⟨(refRead bs).1.da.toArray⟩], .int .i64 (refRead bs).2]) ∧ Below w.heap.size w w' := by
  have R0 := Lib.hid (fun t1 t2 => RD.start w bs hl t1 t2)
  have F0 := Lib.hid (fun W => ref93_any bs hl 0 (by decide) W)
  have S := Lib.hid (fun W => refsum_any ⟨(bs.drop 4).toArray⟩ (by unfold maxLen; simp [ByteArray.size]; omega) W)
  go_enter Try.func63, Try.ntmps63
  go_wp2_with fail
  refine wp_gate (fun W => RD w W w.heap.size (w.heap.size + 1) bs) (R0.out _ _) ?_
  clear R0
  intro W1 hL
  generalize hg1 : w.heap.size = g1 at hL ⊢
  generalize g1 + 1 = g2 at *
  have HL1 := Lib.hid (hL.step (Below.refl _ _).drew)
  clear hL
  have hl55 : ∀ y : WS (fun W => RD w W g1 g2 bs), (Instr.loadAt 55 (.pointer (some ⟨g1, 0, none⟩))).run Try.prog y.w = .ok (.agg (bs.map bv).toArray) y.w := fun y => y.ok.buf.load55
  have hc2 : ∀ y : WS (fun W => RD w W g1 g2 bs), (convert 25 9 (.slice (some ⟨g1, 4, none⟩) 60 60)).run Try.prog y.w = .ok (.string ⟨(bs.drop 4).toArray⟩) y.w := fun y => by
    have h1 := y.ok.buf.bytesFrom 4 60
    rw [List.take_of_length_le (by simp; omega)] at h1
    exact run_bytes_str h1 (by simp; omega)
  refine wp_region_ws (fun W => RD w W g1 g2 bs) (by kernel_rfl) (by kernel_rfl) HL1.out ?_
  haveI : Nonempty (WS (fun W => RD w W g1 g2 bs)) := ⟨⟨W1.drew, HL1.out⟩⟩
  repeat (first
    | (go_big_quiet_step (first | (go_at_call 32; exact ws_same (S.out _)) | (go_at_call 93; exact ws_call (fun W W' h hb => h.step hb) (F0.out _))))
    | (go_big_quiet_want; refine quiet_load 55 _ (by rfl) _ (by rfl) _ hl55 ?_; go_simp; go_big_quiet_on))
  refine wpQuiet_nil ?_
  rintro W2 ⟨⟨W3, hW⟩, hWe⟩
  obtain rfl : W2 = W3 := hWe
  have HL2 := Lib.hid hW
  clear hW hl55 hc2 this HL1
  by_cases hsum : numP bs = CrcP.sum (bs.drop 4)
  · have hne : ((numP bs : Int) != (CrcP.sum (bs.drop 4) : Int)) = false := by rw [hsum]; simp
    obtain ⟨k, hkk, c12, hkb⟩ : ∃ k : Nat, (bs.getD 12 0).toNat = k ∧ W2.cell? ⟨g1, 12, none⟩ = some (.int .u8 (k : Int)) ∧ k < 256 := ⟨_, rfl, HL2.out.buf.cell_of 12 _ (by omega) rfl, (bs.getD 12 0).toNat_lt⟩
    obtain ⟨m, hmm, c13, hmb⟩ : ∃ m : Nat, (bs.getD 13 0).toNat = m ∧ W2.cell? ⟨g1, 13, none⟩ = some (.int .u8 (m : Int)) ∧ m < 256 := ⟨_, rfl, HL2.out.buf.cell_of 13 _ (by omega) rfl, (bs.getD 13 0).toNat_lt⟩
    obtain ⟨n, hnn, c14, hnb⟩ : ∃ n : Nat, (bs.getD 14 0).toNat = n ∧ W2.cell? ⟨g1, 14, none⟩ = some (.int .u8 (n : Int)) ∧ n < 256 := ⟨_, rfl, HL2.out.buf.cell_of 14 _ (by omega) rfl, (bs.getD 14 0).toNat_lt⟩
    have hw1 : IntKind.i64.wrap (n : Int) = n := wrap_small n (by omega)
    have HV := Lib.hid (And.intro hkk (And.intro hmm hnn))
    clear hkk hmm hnn
    obtain ⟨B, hB⟩ : ∃ B, decide (k < 1 ∨ 2 < k ∨ 3 < m ∨ (k = 1 ∧ m ≠ 0) ∨ n < 1 ∨ 49 < n) = B := ⟨_, rfl⟩
    have HB : Hid ((k < 1 ∨ 2 < k ∨ 3 < m ∨ (k = 1 ∧ m ≠ 0) ∨ n < 1 ∨ 49 < n) → Value.bool true = Value.bool B) := Lib.hid fun h => by rw [← hB, decide_eq_true h]
    have HG : Hid (¬(k < 1 ∨ 2 < k ∨ 3 < m ∨ (k = 1 ∧ m ≠ 0) ∨ n < 1 ∨ 49 < n) → Value.bool false = Value.bool B) := Lib.hid fun h => by rw [← hB, decide_eq_false h]
    have HBB := Lib.hid hB
    clear hB
    go_upto_region 4 with fail
    go_cut [46] from 6 to 45 (fun a46 wx => a46 = .bool B ∧ wx = W2)
    case first =>
      by_cases q1 : k < 1
      · go_wp2_with fail
        go_meet
        case rel => exact ⟨Eq.trans (by first | rfl | (congr 1; simp; omega)) (HB.out (by first | omega | (simp; omega))), rfl⟩
      · by_cases q2 : 2 < k
        · go_wp2_with fail
          go_meet
          case rel => exact ⟨Eq.trans (by first | rfl | (congr 1; simp; omega)) (HB.out (by first | omega | (simp; omega))), rfl⟩
        · by_cases q3 : 3 < m
          · go_wp2_with fail
            go_meet
            case rel => exact ⟨Eq.trans (by first | rfl | (congr 1; simp; omega)) (HB.out (by first | omega | (simp; omega))), rfl⟩
          · have hk12 : (k = 1 ∧ m ≠ 0) ∨ (k = 1 ∧ m = 0) ∨ k = 2 := by omega
            rcases hk12 with ⟨rfl, q4⟩ | hk12
            · go_wp2_with fail
              go_meet
              case rel => exact ⟨Eq.trans (by first | rfl | (congr 1; simp; omega)) (HB.out (by first | omega | (simp; omega))), rfl⟩
            · rcases hk12 with ⟨rfl, rfl⟩ | rfl
              · by_cases q5 : n < 1
                · go_wp2_with fail
                  go_meet
                  case rel => exact ⟨Eq.trans (by first | rfl | (congr 1; simp; omega)) (HB.out (by first | omega | (simp; omega))), rfl⟩
                · by_cases q6 : 49 < n
                  · go_wp2_with fail
                    go_meet
                    case rel => exact ⟨Eq.trans (by first | rfl | (congr 1; simp; omega)) (HB.out (by first | omega | (simp; omega))), rfl⟩
                  · go_wp2_with fail
                    go_meet
                    case rel => exact ⟨Eq.trans (by first | rfl | (congr 1; simp; omega)) (HG.out (by first | omega | (simp; omega))), rfl⟩
              · by_cases q5 : n < 1
                · go_wp2_with fail
                  go_meet
                  case rel => exact ⟨Eq.trans (by first | rfl | (congr 1; simp; omega)) (HB.out (by first | omega | (simp; omega))), rfl⟩
                · by_cases q6 : 49 < n
                  · go_wp2_with fail
                    go_meet
                    case rel => exact ⟨Eq.trans (by first | rfl | (congr 1; simp; omega)) (HB.out (by first | omega | (simp; omega))), rfl⟩
                  · go_wp2_with fail
                    go_meet
                    case rel => exact ⟨Eq.trans (by first | rfl | (congr 1; simp; omega)) (HG.out (by first | omega | (simp; omega))), rfl⟩
    case rest =>
      obtain ⟨rfl, rfl⟩ := hcut
      by_cases hbad : k < 1 ∨ 2 < k ∨ 3 < m ∨ (k = 1 ∧ m ≠ 0) ∨ n < 1 ∨ 49 < n
      · obtain rfl : true = B := by rw [← HBB.out, decide_eq_true hbad]
        obtain ⟨np, hnp⟩ : ∃ np, np = noPg := ⟨_, rfl⟩
        have HRB := Lib.hid (show refRead bs = (np, 4) by rw [hnp]; unfold refRead; rw [if_neg (not_not_intro hsum), HV.out.1, HV.out.2.1, HV.out.2.2, if_pos hbad])
        have HNP := Lib.hid hnp
        clear hnp c12 c13 c14 hbad HB HG HBB
        have HR := Lib.hid (below_setCells HL2.out.ge2 (pgC np) 0 _ HL2.out.below)
        go_wp2_with (refine wpList_store42 (by rfl) _ _ (by rfl) g2 0 (by rfl) np (by rw [HNP.out]; rfl) _ HL2.out.res HL2.out.froz ?_)
        rw [HRB.out]
        exact bodyPost_ret (results_cell2 (p := 2) (u := 3) (ty := 42) rfl _ _ ⟨g2, 0, none⟩ _ _ rfl (HL2.out.res.set HL2.out.froz np).loadVar42 rfl) rfl ⟨rfl, HR.out⟩
      · obtain rfl : false = B := by rw [← HBB.out, decide_eq_false hbad]
        have hn : 1 ≤ n ∧ n ≤ 49 := by omega
        have HP := Lib.hid (padB_iff bs hl)
        rw [HV.out.2.2] at HP
        have HBAD := Lib.hid hbad
        clear c12 c13 c14 hbad HB HG HBB
        go_wp2_with fail
        go_loopw [5, 50, 51, 52, 53, 54, 55, 56, 57, 58] (fun a5 _ _ _ _ _ _ _ _ _ wr => ∃ i : Nat, 15 + n ≤ i ∧ i ≤ 64 ∧ a5 = .int .i64 i ∧ (∀ j, 15 + n ≤ j → j < i → bs.getD j 0 = 0) ∧ RD w wr g1 g2 bs) (fun a5 _ _ _ _ _ _ _ _ _ _ => 64 - (intOf a5).toNat)
        case atStart => exact ⟨15 + n, by omega, by omega, by simp, fun j h1 h2 => by omega, HL2.out⟩
        case round =>
          obtain ⟨i, hi1, hi2, rfl, hz, hW⟩ := hrel
          have HZ := Lib.hid hz
          have HW := Lib.hid hW
          clear hz hW
          by_cases hlt : i < 64
          · obtain ⟨x, hx⟩ : ∃ x, bs.getD i 0 = x := ⟨_, rfl⟩
            have ci := HW.out.buf.cell_of i x (by omega) hx
            by_cases hx0 : x = 0
            · subst hx0
              have ci : wr.cell? ⟨g1, i, none⟩ = some (.int .u8 0) := ci
              have HX := Lib.hid hx
              clear hx
              go_wp2_with fail
              refine ⟨⟨i + 1, by omega, by omega, by simp, fun j h1 h2 => ?_, HW.out⟩, by simp only [intOf]; omega⟩
              by_cases hj : j = i
              · rw [hj]; exact HX.out
              · exact HZ.out j h1 (by omega)
            · have hxn : ((x.toNat : Int) != 0) = true := by
                have : x.toNat ≠ 0 := fun h => hx0 (UInt8.toNat_inj.1 h)
                simp; omega
              obtain ⟨np, hnp⟩ : ∃ np, np = noPg := ⟨_, rfl⟩
              have HRB := Lib.hid (show refRead bs = (np, 4) by
                rw [hnp]; unfold refRead; rw [if_neg (not_not_intro hsum), HV.out.1, HV.out.2.1, HV.out.2.2, if_neg HBAD.out, if_neg]
                exact fun h => hx0 (hx ▸ HP.out.1 h i hi1 hlt))
              have HNP := Lib.hid hnp
              have HR := Lib.hid (below_setCells HW.out.ge2 (pgC np) 0 _ HW.out.below)
              clear hnp hx hx0
              go_wp2_with (refine wpList_store42 (by rfl) _ _ (by rfl) g2 0 (by rfl) np (by rw [HNP.out]; rfl) _ HW.out.res HW.out.froz ?_)
              rw [HRB.out]
              exact bodyPost_ret (results_cell2 (p := 2) (u := 3) (ty := 42) rfl _ _ ⟨g2, 0, none⟩ _ _ rfl (HW.out.res.set HW.out.froz np).loadVar42 rfl) rfl ⟨rfl, HR.out⟩
          · have hi64 : i = 64 := by omega
            subst hi64
            obtain ⟨p, hp⟩ : ∃ p, (⟨numP (bs.drop 4), numP (bs.drop 8), k, m % 2 == 1, decide (2 ≤ m), (bs.drop 15).take n⟩ : Pg) = p := ⟨_, rfl⟩
            have HRB := Lib.hid (show refRead bs = (p, 0) by
              rw [← hp]; unfold refRead; rw [if_neg (not_not_intro hsum), HV.out.1, HV.out.2.1, HV.out.2.2, if_neg HBAD.out, if_pos (HP.out.2 HZ.out)])
            have hwk : IntKind.i64.wrap (k : Int) = k := wrap_small k (by omega)
            have hw15 : IntKind.i64.wrap (15 + (n : Int)) = 15 + (n : Int) := wrap_small (15 + n) (by omega)
            have hsl := fun W => run_pg_slice 55 Try.underlying55 g1 n hn.2 W
            have F4 := Lib.hid (fun W => ref93_any bs hl 4 (by decide) W)
            have F8 := Lib.hid (fun W => ref93_any bs hl 8 (by decide) W)
            have HPP := Lib.hid hp
            have hl55 : ∀ y : WS (fun W => RD w W g1 g2 bs), (Instr.loadAt 55 (.pointer (some ⟨g1, 0, none⟩))).run Try.prog y.w = .ok (.agg (bs.map bv).toArray) y.w := fun y => y.ok.buf.load55
            have hx12 : ∀ y : WS (fun W => RD w W g1 g2 bs), y.w.cell? ⟨g1, 12, none⟩ = some (.int .u8 (k : Int)) := fun y => by
              have := y.ok.buf.cell_of 12 _ (by omega) rfl
              rwa [HV.out.1] at this
            have hx13 : ∀ y : WS (fun W => RD w W g1 g2 bs), y.w.cell? ⟨g1, 13, none⟩ = some (.int .u8 (m : Int)) := fun y => by
              have := y.ok.buf.cell_of 13 _ (by omega) rfl
              rwa [HV.out.2.1] at this
            have hc3 : ∀ y : WS (fun W => RD w W g1 g2 bs), (convert 25 9 (.slice (some ⟨g1, 15, none⟩) n 49)).run Try.prog y.w = .ok (.string ⟨((bs.drop 15).take n).toArray⟩) y.w := fun y => run_bytes_str (y.ok.buf.bytesFrom 15 n) (by simp; omega)
            haveI : Nonempty (WS (fun W => RD w W g1 g2 bs)) := ⟨⟨wr.drew, HW.out.step (Below.refl _ _).drew⟩⟩
            clear hp
            go_upto_region 11 with fail
            refine wp_region_ws_tail (fun W => RD w W g1 g2 bs) 19 (by kernel_rfl) (by kernel_rfl) (HW.out.step (Below.refl _ _).drew) ?_
            simp only [List.take_succ_cons, List.take_zero, List.drop_succ_cons, List.drop_zero]
            repeat (first
              | (go_big_quiet_step (first | (go_at_call_of 93 (Value.int .i64 4); exact ws_call (fun W W' h hb => h.step hb) (F4.out _)) | (go_at_call_of 93 (Value.int .i64 8); exact ws_call (fun W W' h hb => h.step hb) (F8.out _))))
              | (go_big_quiet_want; refine quiet_load 55 _ (by rfl) _ (by rfl) _ hl55 ?_; go_simp; go_big_quiet_on))
            refine wpQuiet_nil ?_
            intro W9 hW9
            have HW9 := Lib.hid hW9
            clear hW9 hl55 hx12 hx13 hc3 this
            have HR := Lib.hid (below_setCells HW9.out.ge2 (pgC p) 0 _ HW9.out.below)
            go_wp2_with (refine wpList_store42 (by rfl) _ _ (by rfl) g2 0 (by rfl) p (by rw [← HPP.out]; show Value.agg _ = Value.agg _; congr 5; show [Value.bool ((m : Int) % 2 == 1), Value.bool (decide (2 ≤ (m : Int))), _] = [Value.bool (m % 2 == 1), Value.bool (decide (2 ≤ m)), _]; rw [mod2_beq, le2_dec]) _ HW9.out.res HW9.out.froz ?_)
            rw [HRB.out]
            exact bodyPost_ret (results_cell2 (p := 2) (u := 3) (ty := 42) rfl _ _ ⟨g2, 0, none⟩ _ _ rfl (HW9.out.res.set HW9.out.froz p).loadVar42 rfl) rfl ⟨rfl, HR.out⟩
  · have hne : ((numP bs : Int) != (CrcP.sum (bs.drop 4) : Int)) = true := by simp; omega
    obtain ⟨np, hnp⟩ : ∃ np, np = noPg := ⟨_, rfl⟩
    have HRB := Lib.hid (show refRead bs = (np, 3) by rw [hnp]; unfold refRead; rw [if_pos hsum])
    have HNP := Lib.hid hnp
    clear hnp
    have HR := Lib.hid (below_setCells HL2.out.ge2 (pgC np) 0 _ HL2.out.below)
    go_wp2_with (refine wpList_store42 (by rfl) _ _ (by rfl) g2 0 (by rfl) np (by rw [HNP.out]; rfl) _ HL2.out.res HL2.out.froz ?_)
    rw [HRB.out]
    exact bodyPost_ret (results_cell2 (p := 2) (u := 3) (ty := 42) rfl _ _ ⟨g2, 0, none⟩ _ _ rfl (HL2.out.res.set HL2.out.froz np).loadVar42 rfl) rfl ⟨rfl, HR.out⟩
end Go.Proofs.Ytmaaljfcnnlnpaa
