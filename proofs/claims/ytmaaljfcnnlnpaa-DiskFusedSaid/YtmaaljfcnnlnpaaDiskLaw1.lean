/-
  The walk of the law DiskTwice.
-/
import Derived.Test.YtmaaljfcnnlnpaaDiskWalk9
namespace Go.Proofs.Ytmaaljfcnnlnpaa
open Go.RowKit

theorem arr_next (S : Nat → List UInt8) (j : Nat) : (fun i => if i = j then S j else if i < j then S i else zero64) = fun i => if i < j + 1 then S i else zero64 := by
  funext i
  by_cases h : i = j
  · subst h; simp
  · by_cases h2 : i < j
    · rw [if_neg h, if_pos h2, if_pos (by omega)]
    · rw [if_neg h, if_neg h2, if_neg (by omega)]

/-- A page laid. -/
theorem wpList_store56k {ops : Array Oper} {rest : List Oper} {op : Oper} {a : Act} {w : World} {Q : Exit → Act → World → Prop} (hgd : op.guard = none) (x y : Operand) (ho : op.op = .store 56 x y) (g o : Nat) (hx : a.eval x = .pointer (some ⟨g, o, none⟩))
    (p : List UInt8) (hy : a.eval y = .agg (p.map bv).toArray) (hp : p.length = 64) (ht : w.there g o 64) (h : wpList Try.prog ops Q rest (a.put op.dst undef) (w.setCells g o (p.map bv))) : wpList Try.prog ops Q (op :: rest) a w :=
  wpList_store_mid hgd 56 x y ho g o (p.map bv).toArray hx hy (by simpa [hp] using ht) (by rw [info56]; simp [hp]) (all_bv p) h

/-- An act's page. -/
theorem wpList_load56k {ops : Array Oper} {rest : List Oper} {op : Oper} {a : Act} {w : World} {Q : Exit → Act → World → Prop} (x : Operand) (ho : op.op = .load 56 x) (hw : Region.wanted op (yielded ops a.tmps) = true) (g o : Nat)
    (hx : a.eval x = .pointer (some ⟨g, o, none⟩)) (bs : List UInt8) (hl : bs.length = 64) (hb : w.rangeAt g o (bs.map bv))
    (h : wpList Try.prog ops Q rest (a.put op.dst (.agg (bs.map bv).toArray)) w) : wpList Try.prog ops Q (op :: rest) a w := wpList_load56o x ho hw g o hx bs hl hb h

theorem load56_at {W : World} {g o : Nat} {bs : List UInt8} (hl : bs.length = 64) (hb : W.rangeAt g o (bs.map bv)) : (Instr.loadAt 56 (.pointer (some ⟨g, o, none⟩))).run Try.prog W = .ok (.agg (bs.map bv).toArray) W :=
  run_loadAt_mid W g o 56 (bs.map bv) _ hb Try.underlying56 rfl (by rw [info56, List.length_map, hl])

set_option maxRecDepth 100000 in
set_option maxHeartbeats 4000000 in
theorem diskTwice_walk (v0 v1 v2 : Value) (w : World) (h0 : AcsArg w v0) (h1 : KeepArg w v1) (h2 : KeepArg w v2) :
    Calls Try.prog 14 #[v0, v1, v2] w fun e w' => e = .returned (.bool true) ∧ Below w.heap.size w w' := by
  obtain ⟨n, l, ha⟩ := h0
  obtain ⟨n1, k1, hk1, hn1⟩ := h1
  obtain ⟨n2, k2, hk2, hn2⟩ := h2
  have A := Lib.hid (fun W => awake16 W)
  have F := Lib.hid (fun W (hb : Below w.heap.size w W) => few16 (ha.below hb))
  have N := Lib.hid (fun W (hb : Below w.heap.size w W) => dx_new hb)
  have HA := Lib.hid ha
  have HK1 := Lib.hid hk1
  have HK2 := Lib.hid hk2
  obtain ⟨a0, cap0, rfl, hn, _⟩ := ha
  obtain ⟨a1, cap1, rfl, _⟩ := hk1
  obtain ⟨a2, cap2, rfl, _⟩ := hk2
  unfold maxLen at hn hn1 hn2
  go_enter Try.func14, Try.ntmps14
  go_wp2_with fail
  refine (A.out _).mono ?_
  rintro e w1 ⟨rfl, hb1⟩
  go_wp2_with fail
  refine (F.out _ hb1).mono ?_
  rintro e w2 ⟨⟨b, rfl, hb60⟩, rfl⟩
  have HB := Lib.hid hb1
  clear hb1
  have AG := Lib.hid (show ∀ K : Ending → World → Prop, (∀ w', Below w.heap.size w w' → K (.returned (.bool true)) w') → Calls Try.prog 51 #[] w1 K from fun K hK => (A.out _).mono (by rintro e w3 ⟨rfl, hb⟩; exact hK w3 (HB.out.trans (hb.mono HB.out.size))))
  rcases Bool.eq_false_or_eq_true b with rfl | rfl
  · by_cases hg1 : 200 < n1
    · go_wp2_with fail
      refine AG.out _ (fun w3 hb => ?_)
      go_wp2_with fail
      go_ret
      exact ⟨rfl, hb⟩
    by_cases hg2 : 200 < n2
    · go_wp2_with fail
      refine AG.out _ (fun w3 hb => ?_)
      go_wp2_with fail
      go_ret
      exact ⟨rfl, hb⟩
    have hn60 := hb60 rfl
    clear hb60 AG
    go_wp2_with fail
    refine (N.out _ HB.out).mono ?_
    rintro e w3 ⟨d, m1, m2, rfl, hS⟩
    have HS := Lib.hid hS
    clear hS HB N
    go_wp2_with fail
    go_loopw [9, 37, 38, 39, 40, 41, 42, 43, 44, 45, 46, 47, 48, 49, 50, 51, 52, 53, 54, 55] (fun a9 _ _ _ _ _ _ _ _ _ _ _ _ _ _ _ _ _ _ _ wr => ∃ k : Nat, k ≤ n ∧ a9 = .int .i64 k ∧ DX w wr d m1 m2 (fun _ => zero64) (wrs l k) []) (fun a9 _ _ _ _ _ _ _ _ _ _ _ _ _ _ _ _ _ _ _ _ => n - (intOf a9).toNat)
    case atStart => exact ⟨0, Nat.zero_le _, rfl, HS.out⟩
    case round =>
      clear HS
      obtain ⟨k, hk, rfl, hS⟩ := hrel
      have HS := Lib.hid hS
      clear hS
      by_cases hlt : k < n
      · obtain ⟨a0', cap0', hv, _, h0 | ⟨b, o, rfl, hc⟩⟩ := HA.out.below HS.out.below
        · omega
        obtain ⟨rfl, rfl⟩ : a0 = some ⟨b, o, none⟩ ∧ cap0 = cap0' := by injection hv with e1 _ e3; exact ⟨e1, e3⟩
        have hck := hc k hlt
        have c1 := hck.c1
        have HP2 := Lib.hid (load56_at (W := wr.drew) hck.len hck.c2)
        have HPL := Lib.hid hck.len
        have HW := Lib.hid (wrs_succ l k)
        have HM := Lib.hid (m8_range (l k).at_)
        have hm8 : bits BinOp.and .i64 (l k).at_ 7 = m8 (l k).at_ := rfl
        have h70 : (0:Int) ≤ 7 := by decide
        generalize (l k).at_ = x at *
        generalize (l k).p = p at *
        clear hc hck hv
        have hx : ∀ y : WS (fun X => X = wr.drew), y.w.cell? ⟨b, o + k * 67 + 1, none⟩ = some (.int .i64 x) := fun y => by rw [y.ok]; exact c1
        have hl56 : ∀ y : WS (fun X => X = wr.drew), (Instr.loadAt 56 (.pointer (some ⟨b, o + k * 67 + 2, none⟩))).run Try.prog y.w = .ok (.agg (p.map bv).toArray) y.w := fun y => by rw [y.ok]; exact HP2.out
        haveI : Nonempty (WS (fun X => X = wr.drew)) := ⟨⟨wr.drew, rfl⟩⟩
        go_upto_region 7 with fail
        refine wp_region_ws_tail (fun X => X = wr.drew) 12 (by kernel_rfl) (by kernel_rfl) rfl ?_
        simp only [List.take_succ_cons, List.take_zero, List.drop_succ_cons, List.drop_zero]
        repeat (first
          | (go_big_quiet_step (fail))
          | (go_big_quiet_want; refine quiet_load 56 _ (by rfl) _ (by rfl) _ hl56 ?_; go_simp; go_big_quiet_on))
        refine wpQuiet_nil ?_
        intro w8 hw8
        obtain rfl : w8 = wr.drew := hw8
        clear hx hl56 this
        have HS := Lib.hid (HS.out.step (Below.refl _ _).drew)
        go_wp2_with fail
        refine (dx_write HS.out (m8 x) HM.out p HPL.out (by rw [wrs_length]; omega)).mono ?_
        rintro e w9 ⟨rfl, hS, _⟩
        rw [← HW.out] at hS
        have HS := Lib.hid hS
        clear hS
        go_wp2_with fail
        exact ⟨⟨k + 1, by omega, by simp, HS.out⟩, by simp only [intOf]; omega⟩
      · have hke : k = n := by omega
        subst hke
        have hlen : (wrs l k).length ≤ 100000 := by rw [wrs_length]; omega
        go_wp2_with fail
        refine (dx_crash_arg HS.out hlen _ n1 k1 HK1.out).mono ?_
        rintro e w4 ⟨rfl, hZ, _⟩
        have HZ := Lib.hid hZ
        clear hZ HS hlen F HA
        go_wp2_with fail
        refine (dx_up HZ.out).mono ?_
        rintro e w5 ⟨rfl, hS, _⟩
        obtain ⟨S1, hS1⟩ : ∃ S1, stl (kept n1 k1) (wrs l k) (fun _ => zero64) = S1 := ⟨_, rfl⟩
        rw [hS1] at hS
        have HL := Lib.hid hS.len
        have HS := Lib.hid hS
        clear hS hS1 HZ
        go_upto_region 12 with (refine wpList_arr84 (by rfl) (by rfl) ?_; intro w6 harr hb6 hlt6; have HR := Lib.hid harr; have HS := Lib.hid (HS.out.made hb6 hlt6); clear harr hb6 hlt6)
        generalize w5.heap.size = g at *
        go_loopw [11, 61, 62, 63, 64, 65, 66, 67, 68, 69, 70, 71, 72] (fun a11 _ _ _ _ _ _ _ _ _ _ _ _ wr => ∃ j : Nat, j ≤ 8 ∧ a11 = .int .i64 j ∧ DX w wr d m1 m2 S1 [] [g] ∧ Arr wr g (fun i => if i < j then S1 i else zero64)) (fun a11 _ _ _ _ _ _ _ _ _ _ _ _ _ => 8 - (intOf a11).toNat)
        case atStart => exact ⟨0, by omega, rfl, HS.out, by simpa using HR.out⟩
        case round =>
          clear HS HR
          obtain ⟨j, hj, rfl, hS, hR⟩ := hrel
          have HS := Lib.hid hS
          have HR := Lib.hid hR
          clear hS hR
          by_cases hlt : j < 8
          · go_wp2_with fail
            refine (dx_read HS.out j (by omega) (by decide)).mono ?_
            rintro e w7 ⟨rfl, hS, hst⟩
            obtain ⟨q, hq⟩ : ∃ q, (lastAt ([] : List Wr) (j : Int)).getD (S1 j) = q := ⟨_, rfl⟩
            have HQL := Lib.hid (show q.length = 64 by rw [← hq]; exact HL.out j)
            have HQ := Lib.hid (show S1 j = q from hq)
            rw [hq]
            have HR2 := Lib.hid (HR.out.stays hst (.head _))
            have HS2 := Lib.hid hS
            clear hS hst hq
            go_wp2_with (refine wpList_store56k (by rfl) _ _ (by rfl) g (j * 64) (by rfl) q (by rfl) HQL.out (HR2.out.there j hlt) ?_)
            refine ⟨⟨j + 1, by omega, by simp, HS2.out.setCells (.head _) _ _, ?_⟩, by simp only [intOf]; omega⟩
            have := HR2.out.set j hlt q HQL.out
            rw [← HQ.out] at this ⊢
            rwa [arr_next (fun i => S1 i) j] at this
          · obtain rfl : j = 8 := by omega
            have HS := Lib.hid HS.out
            go_wp2_with fail
            refine (dx_crash_arg HS.out (by decide) _ n2 k2 HK2.out).mono ?_
            rintro e w7 ⟨rfl, hZ, hst⟩
            have HR := Lib.hid (HR.out.stays hst (.head _))
            have HZ := Lib.hid hZ
            clear hZ hst HS
            go_wp2_with fail
            refine (dx_up HZ.out).mono ?_
            rintro e w8 ⟨rfl, hS, hst⟩
            have HR := Lib.hid (HR.out.stays hst (.head _))
            rw [stl_nil] at hS
            have HS := Lib.hid hS
            clear hS hst HZ
            go_wp2_with fail
            go_loopw [12, 13, 14, 78, 79, 80, 81, 82, 83, 84, 85, 86, 87, 88, 89, 90, 91, 92, 93, 94, 95, 96] (fun a12 _ _ _ _ _ _ _ _ _ _ _ _ _ _ _ _ _ _ _ _ _ wr => ∃ j : Nat, j ≤ 8 ∧ a12 = .int .i64 j ∧ DX w wr d m1 m2 S1 [] [g] ∧ Arr wr g (fun i => if i < 8 then S1 i else zero64)) (fun a12 _ _ _ _ _ _ _ _ _ _ _ _ _ _ _ _ _ _ _ _ _ _ => 8 - (intOf a12).toNat)
            case atStart => exact ⟨0, by omega, rfl, HS.out, HR.out⟩
            case round =>
              clear HS HR
              obtain ⟨j, hj, rfl, hS, hR⟩ := hrel
              have HS := Lib.hid hS
              have HR := Lib.hid hR
              clear hS hR
              by_cases hlt : j < 8
              · go_wp2_with fail
                refine (dx_read HS.out j (by omega) (by decide)).mono ?_
                rintro e w9 ⟨rfl, hS, hst⟩
                obtain ⟨q, hq⟩ : ∃ q, (lastAt ([] : List Wr) (j : Int)).getD (S1 j) = q := ⟨_, rfl⟩
                have hql : q.length = 64 := by rw [← hq]; exact HL.out j
                have HQL := Lib.hid hql
                have hra : Arr w9 g (fun i => if i < 8 then S1 i else zero64) := HR.out.stays hst (.head _)
                have hrg := hra.at_ j hlt
                simp only [if_pos hlt] at hrg
                rw [show S1 j = q from hq] at hrg
                rw [hq]
                have HG := Lib.hid hrg
                have HR2 := Lib.hid hra
                have HS2 := Lib.hid hS
                have hne : ∀ W, (binOp .neq 56 (.agg (q.map bv).toArray) (.agg (q.map bv).toArray)).run Try.prog W = .ok (.bool false) W := fun W => by
                  have := run_neq56 W q q hql hql
                  rwa [bne_self_eq_false] at this
                have HNE := Lib.hid hne
                clear hS hst hq hra hrg hql hne
                go_upto_region 21 with (refine wpList_new56 (by rfl) _ _ (by rfl) _ _ rfl (by rfl) (by rfl) q (by rfl) HQL.out ?_; intro w10 hbuf hw10 hlt10; have HB := Lib.hid hbuf; have HS3 := Lib.hid (HS2.out.made hw10 hlt10); have HR3 := Lib.hid (HR2.out.of_block (hw10.block _ (HS2.out.lt (.head _)))); have HG2 := Lib.hid (show w10.drew.rangeAt g (j * 64) (q.map bv) from fun x y hy => (World.cell?_of_block (a := ⟨g, j * 64 + x, none⟩) (hw10.block _ (HS2.out.lt (.head _)))).trans (HG.out x y hy)); clear hbuf hw10 hlt10)
                generalize w9.heap.size = g3 at *
                have hl1 : ∀ y : WS (fun X => X = w10.drew), (Instr.loadAt 56 (.pointer (some ⟨g3, 0, none⟩))).run Try.prog y.w = .ok (.agg (q.map bv).toArray) y.w := fun y => by rw [y.ok]; exact HB.out.drew.load56
                have hl2 : ∀ y : WS (fun X => X = w10.drew), (Instr.loadAt 56 (.pointer (some ⟨g, j * 64, none⟩))).run Try.prog y.w = .ok (.agg (q.map bv).toArray) y.w := fun y => by rw [y.ok]; exact load56_at HQL.out HG2.out
                have hne := HNE.out
                haveI : Nonempty (WS (fun X => X = w10.drew)) := ⟨⟨w10.drew, rfl⟩⟩
                refine wp_region_ws (fun X => X = w10.drew) (by kernel_rfl) (by kernel_rfl) rfl ?_
                repeat (first
                  | (go_big_quiet_step (fail))
                  | (go_big_quiet_want; refine quiet_load 56 _ (by rfl) _ (by rfl) _ hl1 ?_; go_simp; go_big_quiet_on)
                  | (go_big_quiet_want; refine quiet_load 56 _ (by rfl) _ (by rfl) _ hl2 ?_; go_simp; go_big_quiet_on))
                refine wpQuiet_nil ?_
                rintro w12 ⟨⟨w11, hw11⟩, hw12⟩
                have hww : w12 = w10.drew := hw12.trans hw11
                clear hw12 hw11
                subst hww
                clear hl1 hl2 hne this
                have HS4 := Lib.hid ((HS3.out.less (l' := [g]) (fun k hk => .tail _ hk)).step (Below.refl _ _).drew)
                have HR4 := Lib.hid (HR3.out.of_block (W' := w10.drew) rfl)
                clear HS3 HR3 HG2 HB HS2 HR2 HG HNE
                go_wp2_with fail
                exact ⟨⟨j + 1, by omega, by simp, HS4.out, HR4.out⟩, by simp only [intOf]; omega⟩
              · obtain rfl : j = 8 := by omega
                go_wp2_with fail
                refine (dx_loose HS.out).mono ?_
                rintro e w9 ⟨rfl, rfl⟩
                go_wp2_with fail
                go_ret
                exact ⟨rfl, HS.out.below⟩
  · go_wp2_with fail
    refine AG.out _ (fun w3 hb => ?_)
    go_wp2_with fail
    go_ret
    exact ⟨rfl, hb⟩
end Go.Proofs.Ytmaaljfcnnlnpaa
