/-
  The walk of the law DiskPlays.
-/
import Derived.Test.YtmaaljfcnnlnpaaRefDisk7
import Derived.Deep.CutBlock
namespace Go.Proofs.Ytmaaljfcnnlnpaa
open Go.RowKit

section
variable {ops : Array Oper} {rest : List Oper} {op : Oper} {a : Act} {w : World} {Q : Exit → Act → World → Prop}
theorem wpList_new102 (hgd : op.guard = none) (x y : Operand) (ho : op.op = .store 102 x y) (w0 : World) (c : Array Value) (hw : w = w0.alloc (.cells c 102)) (hc : c.size = 6) (hx : a.eval x = .pointer (some ⟨w0.heap.size, 0, none⟩))
    (vs : List Value) (hy : a.eval y = .agg vs.toArray) (hv : vs.length = 6) (h1 : ∀ v ∈ vs, v.oneCell' = true)
    (h : ∀ W', Box6 W' w0.heap.size vs → Below w0.heap.size w0 W' → w0.heap.size < W'.heap.size → wpList Try.prog ops Q rest (a.put op.dst undef) W') : wpList Try.prog ops Q (op :: rest) a w := by
  subst hw
  have hB : Box6 (w0.alloc (.cells c 102)) w0.heap.size c.toList := Box6.new w0 c.toList hc
  refine wpList_store102 hgd x y ho vs hB hx hy hv h1 ?_
  exact h _ (hB.set vs hv) (set_below ((Below.refl _ _).alloc (Nat.le_refl _) _) _ (Nat.le_refl _) _ _) (by rw [heap_size_setCells]; exact hB.lt)
end

theorem RfAt.ones {W : World} {B : Nat} {a b c d : Value} {r : Rf} (h : RfAt W B a b c d r) : ∀ v ∈ [a, b, c, d, .bool r.down, .int .i64 r.fuse], v.oneCell' = true := fun v hv => by
  obtain ⟨a1, a3, rfl⟩ := ownsRow_form h.sure
  obtain ⟨b1, b3, rfl⟩ := ownsRow_form h.seen
  obtain ⟨c1, c3, rfl⟩ := ownsRow_form h.at_
  obtain ⟨d1, d3, rfl⟩ := ownsRow_form h.what
  simp only [List.mem_cons, List.not_mem_nil, or_false] at hv
  rcases hv with rfl | rfl | rfl | rfl | rfl | rfl <;> rfl

theorem quiet_zero56 {J : World → Prop} {o : Oper} {a : Act} {K : Act → Prop} (z : List UInt8) (hz : z = zero64) (ho : o.op = .build 56 #[]) (hK : K (a.put o.dst (.agg (z.map bv).toArray))) : o.quiet Try.prog a (fun w' => ∃ y : WS J, w' = y.w) K := by
  subst hz
  refine ⟨_, ?_, hK⟩
  rintro w ⟨y, rfl⟩
  unfold Oper.quietAt execOp
  simp [ho, run_build56, Result.andThen]
  exact ⟨rfl, rfl⟩

theorem RI.crH {n m : Nat} {D : Dk} {r : Rf} (h : RI n D r m) : CrH r.at_ r.what r.sure := by
  refine ⟨fun j hj => ?_, by rw [h.at_, h.what, List.length_map, List.length_map]⟩
  have hj2 : j < D.loose.length := by rw [h.at_, List.length_map] at hj; exact hj
  have e1 : r.at_.getD j 0 = D.loose[j].1 := by rw [h.at_]; simp [hj2]
  have hin := h.inn _ (List.getElem_mem hj2)
  rw [e1, h.s1]
  omega
theorem RI.fewer {n m : Nat} {D : Dk} {r : Rf} (h : RI n D r m) (hm : m < 1000) : r.at_.length < 1000 ∧ r.what.length < 1000 := by
  rw [h.at_, h.what, List.length_map, List.length_map]
  have := h.few
  omega
theorem writeR_reads (D : Dk) (i : Int) (p : List UInt8) : (D.writeR i p).1.reads = D.reads := by
  unfold Dk.writeR
  split
  · rfl
  split
  · rfl
  split <;> rfl
theorem syncR_reads (D : Dk) : D.syncR.1.reads = D.reads := by
  unfold Dk.syncR
  split
  · rfl
  split <;> rfl

/-- The copy of an act, behind a call of the disk's. -/
theorem range_stays {W X : World} {b o : Nat} {cs : List Value} {l : List Nat} (h : W.rangeAt b o cs) (hs : Stays W X l) (hb : b ∈ l) : X.rangeAt b o cs := fun j v hv => (World.cell?_of_block (a := ⟨b, o + j, none⟩) (hs b hb)).trans (h j v hv)
theorem range_block {W X : World} {b o : Nat} {cs : List Value} (h : W.rangeAt b o cs) (hb : X.heap[b]? = W.heap[b]?) : X.rangeAt b o cs := fun j v hv => (World.cell?_of_block (a := ⟨b, o + j, none⟩) hb).trans (h j v hv)
theorem range_cell {W : World} {b : Nat} {cs : List Value} (h : W.rangeAt b 0 cs) (j : Nat) (v : Value) (hv : cs[j]? = some v) : W.cell? ⟨b, j, none⟩ = some v := by
  have := h j v hv
  rwa [Nat.zero_add] at this
theorem range_page {W : World} {b : Nat} {ac : Ac} (h : W.rangeAt b 0 (actC ac)) (hl : ac.p.length = 64) : W.rangeAt b 2 (ac.p.map bv) := fun j v hv => range_cell h _ v ((actC_get hl).2.2.1 j v hv)

/-- At the outer loop's head. -/
structure PI (w W : World) (d m1 m2 g q n i : Nat) (D : Dk) (r : Rf) (a b c e : Value) : Prop where
  pm : PM w W d m1 m2 g q D r n D.reads a b c e []
  ri : RI n D r i
  out : ∀ k : Int, k < 0 ∨ (n : Int) ≤ k → D.reads k = 0

theorem PI.start {w W0 W1 W2 W3 : World} {d m1 m2 n : Nat} {a b : Value} (hS : DS w W0 d m1 m2 (Dk.new n) []) (h1 : Below W0.heap.size W0 W1) (hr : RfAt W1 W0.heap.size a b (.slice none 0 0) (.slice none 0 0) (Rf.new n))
    (hb : Box6 W2 W1.heap.size [a, b, .slice none 0 0, .slice none 0 0, .bool false, .int .i64 (-1)]) (h2 : Below W1.heap.size W1 W2) (hd : Rd W3 W2.heap.size n (fun _ => 0)) (h3 : Below W2.heap.size W2 W3) (hl : W1.heap.size < W2.heap.size) :
    PI w W3 d m1 m2 W1.heap.size W2.heap.size n 0 (Dk.new n) (Rf.new n) a b (.slice none 0 0) (.slice none 0 0) := by
  have h03 : Below W0.heap.size W0 W3 := (h1.trans (h2.mono h1.size)).trans (h3.mono (Nat.le_trans h1.size h2.size))
  have hlt : ∀ k ∈ rv4 a b (.slice none 0 0) (.slice none 0 0), W0.heap.size ≤ k ∧ k < W1.heap.size := fun k hk => by
    refine ⟨?_, hr.lt hk⟩
    rcases rv4_mem.1 hk with e | e | e | e
    · exact (ownsRow_ge hr.sure e).1
    · exact (ownsRow_ge hr.seen e).1
    · cases e
    · cases e
  have s1 := h1.size
  have s3 := h3.size
  refine ⟨⟨hS.regrow h03 (fun k hk => .inr ?_), hb.of_block (h3.block _ hb.lt) (Nat.lt_of_lt_of_le hb.lt h3.size), ?_, hd, by omega, fun hk => by have := (hlt _ hk).2; omega, fun hk => by have := (hlt _ hk).2; omega⟩, RI.new n, fun _ _ => rfl⟩
  · rcases List.mem_cons.1 hk with rfl | hk
    · exact ⟨s1, by omega⟩
    · rcases List.mem_cons.1 hk with rfl | hk
      · exact ⟨by omega, hd.lt⟩
      · have := hlt k hk
        exact ⟨this.1, by omega⟩
  · have hB := hS.below.size
    exact ⟨row_base (row_below (row_below hr.sure h2) h3) hB, row_base (row_below (row_below hr.seen h2) h3) hB, World.ownsRow_nil _ _ _ _, World.ownsRow_nil _ _ _ _, hr.s64, hr.n64, hr.w64, hr.few⟩

set_option maxRecDepth 100000 in
set_option maxHeartbeats 16000000 in
theorem diskPlays_walk (sz : Int) (v1 : Value) (w : World) (h1 : AcsArg w v1) :
    Calls Try.prog 22 #[.int .i64 sz, v1] w fun r w' => r = .returned (.bool true) ∧ Below w.heap.size w w' := by
  obtain ⟨N, l, ha⟩ := h1
  have A := Lib.hid (fun W => awake16 W)
  have F := Lib.hid (fun W (hb : Below w.heap.size w W) => few16 (ha.below hb))
  have HA := Lib.hid ha
  obtain ⟨a0, cap0, rfl, hn, -⟩ := ha
  unfold maxLen at hn
  go_enter Try.func22, Try.ntmps22
  go_wp2_with fail
  refine (A.out _).mono ?_
  rintro r w1 ⟨rfl, hb1⟩
  go_wp2_with fail
  refine (F.out _ hb1).mono ?_
  rintro r w2 ⟨⟨b, rfl, hb60⟩, rfl⟩
  have HB := Lib.hid hb1
  clear hb1 F
  rcases Bool.eq_false_or_eq_true b with rfl | rfl
  · have hn60 := hb60 rfl
    clear hb60 hn
    by_cases hs : sz < 1 ∨ 1024 < sz
    · have NW := Lib.hid (fun W => new_no sz hs W)
      go_wp2_with fail
      refine (NW.out _).mono ?_
      rintro r w3 ⟨rfl, rfl⟩
      clear NW A
      rcases hs with hs | hs
      · go_wp2_with fail
        go_ret
        exact ⟨rfl, HB.out⟩
      · by_cases hs2 : sz < 1
        · omega
        · go_wp2_with fail
          go_ret
          exact ⟨rfl, HB.out⟩
    · obtain ⟨hs1, hs2⟩ : 1 ≤ sz ∧ sz ≤ 1024 := by omega
      clear hs
      obtain ⟨n, rfl⟩ : ∃ n : Nat, sz = (n : Int) := ⟨sz.toNat, by omega⟩
      have NW := Lib.hid (ds_new (n : Int) hs1 hs2 HB.out)
      go_wp2_with fail
      refine NW.out.mono ?_
      rintro r w3 ⟨d, m1, m2, rfl, hS⟩
      have HS := Lib.hid hS
      clear hS NW A HB
      by_cases hs3 : 60 < (n : Int)
      · have SZ := Lib.hid (ds_size HS.out)
        have SZ : Hid (Calls Try.prog 65 #[.pointer (some ⟨d, 0, none⟩)] w3 fun r w' => r = .returned (.int .i64 (n : Int)) ∧ w3 = w') := SZ
        go_wp2_with fail
        refine SZ.out.mono ?_
        rintro r w4 ⟨rfl, rfl⟩
        go_wp2_with fail
        go_ret
        exact ⟨rfl, HS.out.below⟩
      · have hn6 : n ≤ 60 := by omega
        have RN := Lib.hid (fun W => rnew n (by omega) W)
        go_wp2_with fail
        refine (RN.out _).mono ?_
        rintro r w4 ⟨sa, sb, rfl, hr, hb⟩
        have HR := Lib.hid hr
        have HB4 := Lib.hid hb
        clear hr hb RN
        unfold rfV
        go_upto_region 10 with (first
          | (refine wpList_new102 (by rfl) (.tmp 7) (.tmp 55) (by rfl) w4 _ rfl (by rfl) (by rfl) [.slice (some ⟨sa, 0, none⟩) n n, .slice (some ⟨sb, 0, none⟩) n n, .slice none 0 0, .slice none 0 0, .bool false, .int .i64 (-1)] (by rfl) rfl (by simp [Value.oneCell']) ?_; intro w5 hbx hb5 hlt5; have HBX := Lib.hid (And.intro hbx (And.intro hb5 hlt5)); clear hbx hb5 hlt5)
          | (refine wpList_make100 (by rfl) (.tmp 56) (.tmp 56) (by rfl) n (by omega) (by rfl) (by rfl) ?_; intro w6 hrd hb6 hs6; have HRD := Lib.hid (And.intro hrd hb6); clear hrd hb6 hs6))
        have HZ0 := Lib.hid (PI.start HS.out HB4.out HR.out HBX.out.1 HBX.out.2.1 HRD.out.1 HRD.out.2 HBX.out.2.2)
        clear HS HB4 HR HBX HRD
        generalize w4.heap.size = g at *
        generalize w5.heap.size = q at *
        go_wp2_with fail
        go_loopw [9, 10, 11, 12, 13, 14, 15, 16, 17, 18, 58, 59, 60, 61, 62, 63, 64, 65, 66, 67, 68, 69, 70, 71, 72, 73, 74, 75, 76, 77, 78, 79, 80, 81, 82, 83, 84, 85, 86, 87, 88, 89, 90, 91, 92, 93, 94, 95, 96, 97, 98, 99, 100, 101, 102, 103, 104, 105, 106, 107, 108, 109, 110, 111, 112, 113, 114, 115, 116, 117, 118, 119, 120, 121, 122, 123, 124, 125, 126, 127, 128, 129, 130, 131, 132, 133, 134, 135, 136, 137, 138, 139, 140, 141, 142, 143, 144, 145, 146, 147, 148, 149, 150, 151, 152, 153, 154, 155, 156, 157, 158, 159, 160, 161, 162, 163, 164, 165, 166, 167, 168, 169, 170, 171, 172, 173, 174, 175, 176, 177, 178, 179, 180, 181, 182, 183, 184, 185, 186, 187, 188, 189, 190, 191, 192, 193, 194, 195, 196, 197, 198, 199, 200, 201, 202, 203, 204, 205, 206, 207, 208, 209, 210, 211, 212, 213, 214, 215, 216, 217, 218, 219, 220, 221, 222, 223, 224, 225, 226, 227, 228, 229, 230, 231, 232, 233] (fun a9 _ _ _ _ _ _ _ _ _ _ _ _ _ _ _ _ _ _ _ _ _ _ _ _ _ _ _ _ _ _ _ _ _ _ _ _ _ _ _ _ _ _ _ _ _ _ _ _ _ _ _ _ _ _ _ _ _ _ _ _ _ _ _ _ _ _ _ _ _ _ _ _ _ _ _ _ _ _ _ _ _ _ _ _ _ _ _ _ _ _ _ _ _ _ _ _ _ _ _ _ _ _ _ _ _ _ _ _ _ _ _ _ _ _ _ _ _ _ _ _ _ _ _ _ _ _ _ _ _ _ _ _ _ _ _ _ _ _ _ _ _ _ _ _ _ _ _ _ _ _ _ _ _ _ _ _ _ _ _ _ _ _ _ _ _ _ _ _ _ _ _ _ _ _ _ _ _ _ _ _ _ _ _ _ _ wr => ∃ (i : Nat) (D : Dk) (r : Rf) (a b c e : Value), i ≤ N ∧ a9 = .int .i64 i ∧ PI w wr d m1 m2 g q n i D r a b c e) (fun a9 _ _ _ _ _ _ _ _ _ _ _ _ _ _ _ _ _ _ _ _ _ _ _ _ _ _ _ _ _ _ _ _ _ _ _ _ _ _ _ _ _ _ _ _ _ _ _ _ _ _ _ _ _ _ _ _ _ _ _ _ _ _ _ _ _ _ _ _ _ _ _ _ _ _ _ _ _ _ _ _ _ _ _ _ _ _ _ _ _ _ _ _ _ _ _ _ _ _ _ _ _ _ _ _ _ _ _ _ _ _ _ _ _ _ _ _ _ _ _ _ _ _ _ _ _ _ _ _ _ _ _ _ _ _ _ _ _ _ _ _ _ _ _ _ _ _ _ _ _ _ _ _ _ _ _ _ _ _ _ _ _ _ _ _ _ _ _ _ _ _ _ _ _ _ _ _ _ _ _ _ _ _ _ _ _ _ => N - (intOf a9).toNat)
        case atStart => exact ⟨0, _, _, _, _, _, _, Nat.zero_le _, rfl, HZ0.out⟩
        case round =>
          obtain ⟨i, D, r, a, b, c, e, hi, rfl, hZ⟩ := hrel
          have HZ := Lib.hid hZ
          clear hZ HZ0
          by_cases hlt : i < N
          · obtain ⟨ax, capx, hv, _, h0 | ⟨ab, ao, rfl, hc⟩⟩ := HA.out
            · omega
            obtain ⟨rfl, rfl⟩ : a0 = some ⟨ab, ao, none⟩ ∧ cap0 = capx := by injection hv with e1 _ e3; exact ⟨e1, e3⟩
            have hc := hc i hlt
            have hi0 : (0 : Int) ≤ (i : Int) := by omega
            have hi1 : (i : Int) < (N : Int) := by omega
            have HC : Hid (∀ W, Below w.heap.size w W → W.rangeAt ab (ao + i * 67) (actC (l i))) := Lib.hid fun W hW => (hc.below hW).range
            have HAC := Lib.hid (And.intro (actC_length hc.len) (actC_one hc))
            have HKP := Lib.hid hc.keep
            have HKN := Lib.hid hc.kn
            have HLN := Lib.hid hc.len
            have HAT := Lib.hid (And.intro hc.at1 hc.at2)
            have hact := hc.act
            clear hc hv
            generalize l i = ac at *
            go_upto_region 14 with (first
              | (refine wpList_load82 (by rfl) (.tmp 66) (by rfl) ab (ao + i * 67) (by rfl) (actC ac) ?_ ?_ ?_; exact HAC.out.1; exact HC.out _ HZ.out.pm.ds.below)
              | (refine wpList_new82 (by rfl) (.tmp 10) (.tmp 67) (by rfl) wr _ rfl (by rfl) (by rfl) (actC ac) (by rfl) ?_ ?_ ?_; exact HAC.out.1; exact HAC.out.2; intro w8 hrg hb8 hlt8; have HRG := Lib.hid (And.intro hrg (And.intro hb8 hlt8)); clear hrg hb8 hlt8))
            have HX := Lib.hid (HZ.out.pm.more HRG.out.2.1 wr.heap.size (Nat.le_refl _) HRG.out.2.2)
            have HRI := Lib.hid (And.intro HZ.out.ri HZ.out.out)
            have HRG := Lib.hid HRG.out.1
            have HG := Lib.hid (actC_get HLN.out)
            have HSG := Lib.hid (HZ.out.pm.gt (List.mem_append_right _ (.head _)))
            clear HZ HC HAC HA
            change Code.wp _ _ _ _ w8
            generalize wr.heap.size = sb at *
            have k0 : w8.cell? ⟨sb, 0, none⟩ = some (.int .u8 ac.act) := by have := HRG.out 0 _ HG.out.1; rwa [Nat.zero_add] at this
            go_upto_block 2 with fail
            go_cut [11, 12, 13, 14] from 71 to 125 (fun _ _ _ _ wc => ∃ (D' : Dk) (r' : Rf) (a' b' c' e' : Value), PM w wc d m1 m2 g q D' r' n D.reads a' b' c' e' [] ∧ RI n D' r' (i + 1) ∧ D'.reads = D.reads)
            case rest =>
              obtain ⟨D', r', a', b', c', e', hX, hri, hrd⟩ := hcut
              rw [← hrd] at hX
              have HY0 : Hid (PI w wc d m1 m2 g q n (i + 1) D' r' a' b' c' e') := Lib.hid ⟨hX, hri, fun k hk => by rw [hrd]; exact HRI.out.2 k hk⟩
              clear hX hri hrd HX HRG HG HRI HKP HKN HLN HAT HSG k0 hact
              obtain ⟨z, hz⟩ : ∃ z, z = zero64 := ⟨_, rfl⟩
              have HZ := Lib.hid hz
              have HZL : Hid (z.length = 64) := Lib.hid (by rw [hz]; rfl)
              have HNE : Hid (∀ W, (binOp .neq 56 (.agg (z.map bv).toArray) (.agg (z.map bv).toArray)).run Try.prog W = .ok (.bool false) W) := Lib.hid fun W => by
                have := run_neq56 W z z HZL.out HZL.out
                rwa [bne_self_eq_false] at this
              clear hz
              go_wp2_with fail
              go_loopw [15, 16, 17, 18, 126, 127, 128, 129, 130, 131, 132, 133, 134, 135, 136, 137, 138, 139, 140, 141, 142, 143, 144, 145, 146, 147, 148, 149, 150, 151, 152, 153, 154, 155, 156, 157, 158, 159, 160, 161, 162, 163, 164, 165, 166, 167, 168, 169, 170, 171, 172, 173, 174, 175, 176, 177, 178, 179, 180, 181, 182, 183, 184, 185, 186, 187, 188, 189, 190, 191, 192, 193, 194, 195, 196, 197, 198, 199, 200, 201, 202, 203, 204, 205, 206, 207, 208, 209, 210, 211, 212, 213, 214, 215, 216, 217, 218, 219, 220, 221] (fun a15 _ _ _ _ _ _ _ _ _ _ _ _ _ _ _ _ _ _ _ _ _ _ _ _ _ _ _ _ _ _ _ _ _ _ _ _ _ _ _ _ _ _ _ _ _ _ _ _ _ _ _ _ _ _ _ _ _ _ _ _ _ _ _ _ _ _ _ _ _ _ _ _ _ _ _ _ _ _ _ _ _ _ _ _ _ _ _ _ _ _ _ _ _ _ _ _ _ _ _ wr => ∃ (k : Nat) (E : Dk), k ≤ n + 2 ∧ a15 = .int .i64 ((k : Int) - 1) ∧ PI w wr d m1 m2 g q n (i + 1) E r' a' b' c' e') (fun a15 _ _ _ _ _ _ _ _ _ _ _ _ _ _ _ _ _ _ _ _ _ _ _ _ _ _ _ _ _ _ _ _ _ _ _ _ _ _ _ _ _ _ _ _ _ _ _ _ _ _ _ _ _ _ _ _ _ _ _ _ _ _ _ _ _ _ _ _ _ _ _ _ _ _ _ _ _ _ _ _ _ _ _ _ _ _ _ _ _ _ _ _ _ _ _ _ _ _ _ _ => (n + 2) - ((intOf a15) + 1).toNat)
              case atStart => exact ⟨0, D', by omega, rfl, HY0.out⟩
              case round =>
                clear HY0
                obtain ⟨k, E, hk, ha, hY⟩ := hrel
                have HY := Lib.hid hY
                clear hY
                by_cases hk0 : k = 0
                · subst hk0
                  rw [show (((0 : Nat) : Int) - 1) = -1 by omega] at ha
                  subst ha
                  cases hdn : r'.down with
                    | true =>
                      as_aux_lemma =>
                        have HM : Hid (E.may (-1) = 7) := Lib.hid (may_down (by rw [HY.out.ri.down, hdn]) _)
                        have R := Lib.hid (ds_read_no HY.out.pm.ds (-1) (by rw [HM.out]; decide))
                        rw [HM.out, ← HZ.out] at R
                        clear HM
                        go_wp2_with fail
                        refine R.out.mono ?_
                        rintro y w5 ⟨rfl, hS, hst⟩
                        have HX := Lib.hid (HY.out.pm.disk hS hst)
                        clear hS hst R
                        go_upto_region 37 with (refine wpList_new56 (by rfl) _ _ (by rfl) _ _ rfl (by rfl) (by rfl) z (by rfl) HZL.out ?_; intro w6 hbuf hw6 hlt6; have HX := Lib.hid (HX.out.step hw6); have HBF := Lib.hid hbuf; clear hbuf hw6 hlt6)
                        generalize w5.heap.size = pb at *
                        go_upto_region 38 with fail
                        have HX := Lib.hid (HX.out.step (Below.refl _ _).drew)
                        have HBF := Lib.hid HBF.out.drew
                        have l4 : ∀ y : WS (fun X => X = w6.drew), y.w.cell? ⟨g, 4, none⟩ = some (.bool true) := fun y => by rw [y.ok]; have := HX.out.box.cell 4 _ rfl; rwa [hdn] at this
                        have l56 : ∀ y : WS (fun X => X = w6.drew), (Instr.loadAt 56 (.pointer (some ⟨pb, 0, none⟩))).run Try.prog y.w = .ok (.agg (z.map bv).toArray) y.w := fun y => by rw [y.ok]; exact HBF.out.load56
                        have hne := HNE.out
                        haveI : Nonempty (WS (fun X => X = w6.drew)) := ⟨⟨w6.drew, rfl⟩⟩
                        refine wp_region_ws (fun X => X = w6.drew) (by kernel_rfl) (by kernel_rfl) rfl ?_
                        repeat (first
                          | (go_big_quiet_want; refine quiet_zero56 z HZ.out (by rfl) ?_; go_simp; go_big_quiet_on)
                          | (go_big_quiet_step (fail))
                          | (go_big_quiet_want; refine quiet_load 56 _ (by rfl) _ (by rfl) _ l56 ?_; go_simp; go_big_quiet_on))
                        refine wpQuiet_nil ?_
                        rintro w12 ⟨⟨w11, hw11⟩, hw12⟩
                        have hww : w12 = w6.drew := hw12.trans hw11
                        clear hw12 hw11
                        subst hww
                        clear l4 l56 hne this
                        have c4 : w6.drew.cell? ⟨g, 4, none⟩ = some (.bool true) := by have := HX.out.box.cell 4 _ rfl; rwa [hdn] at this
                        go_upto_region 42 with fail
                        generalize w6.drew = w7 at *
                        clear c4
                        have HX := Lib.hid (HX.out.step (Below.refl _ _).drew)
                        obtain ⟨v, hv⟩ : ∃ v : Int, v = 0 := ⟨_, rfl⟩
                        have HV : Hid (E.reads (-1) = 0) := Lib.hid (HY.out.out _ (by omega))
                        subst hv
                        have RDC : ∀ y : WS (fun X => X = w7.drew), Calls Try.prog 71 #[.pointer (some ⟨d, 0, none⟩), .int .i64 (-1)] y.w fun e w' => e = .returned (.int .i64 0) ∧ y.w = w' := fun y => by
                          rw [y.ok]
                          have := ds_reads HX.out.ds (-1)
                          rwa [HV.out] at this
                        haveI : Nonempty (WS (fun X => X = w7.drew)) := ⟨⟨w7.drew, rfl⟩⟩
                        refine wp_region_ws (fun X => X = w7.drew) (by kernel_rfl) (by kernel_rfl) rfl ?_
                        repeat (go_big_quiet_step ((go_at_call 71; exact ws_same (RDC _))))
                        refine wpQuiet_nil ?_
                        rintro w12 ⟨⟨w11, hw11⟩, hw12⟩
                        have hww : w12 = w7.drew := hw12.trans hw11
                        clear hw12 hw11
                        subst hww
                        clear RDC this
                        go_wp2_with fail
                        exact ⟨⟨1, E, by omega, by first | rfl | (congr 1; omega) | (simp; omega), ⟨HX.out, HY.out.ri, HY.out.out⟩⟩, by simp only [intOf]; omega⟩
                    | false =>
                      as_aux_lemma =>
                        have HM : Hid (E.may (-1) = 1) := Lib.hid (may_arg (by rw [HY.out.ri.down, hdn]; decide) (by rw [HY.out.ri.size]; omega))
                        have R := Lib.hid (ds_read_no HY.out.pm.ds (-1) (by rw [HM.out]; decide))
                        rw [HM.out, ← HZ.out] at R
                        clear HM
                        go_wp2_with fail
                        refine R.out.mono ?_
                        rintro y w5 ⟨rfl, hS, hst⟩
                        have HX := Lib.hid (HY.out.pm.disk hS hst)
                        clear hS hst R
                        go_upto_region 37 with (refine wpList_new56 (by rfl) _ _ (by rfl) _ _ rfl (by rfl) (by rfl) z (by rfl) HZL.out ?_; intro w6 hbuf hw6 hlt6; have HX := Lib.hid (HX.out.step hw6); have HBF := Lib.hid hbuf; clear hbuf hw6 hlt6)
                        generalize w5.heap.size = pb at *
                        go_upto_region 38 with fail
                        have HX := Lib.hid (HX.out.step (Below.refl _ _).drew)
                        have HBF := Lib.hid HBF.out.drew
                        have l4 : ∀ y : WS (fun X => X = w6.drew), y.w.cell? ⟨g, 4, none⟩ = some (.bool false) := fun y => by rw [y.ok]; have := HX.out.box.cell 4 _ rfl; rwa [hdn] at this
                        have l56 : ∀ y : WS (fun X => X = w6.drew), (Instr.loadAt 56 (.pointer (some ⟨pb, 0, none⟩))).run Try.prog y.w = .ok (.agg (z.map bv).toArray) y.w := fun y => by rw [y.ok]; exact HBF.out.load56
                        have hne := HNE.out
                        haveI : Nonempty (WS (fun X => X = w6.drew)) := ⟨⟨w6.drew, rfl⟩⟩
                        refine wp_region_ws (fun X => X = w6.drew) (by kernel_rfl) (by kernel_rfl) rfl ?_
                        repeat (first
                          | (go_big_quiet_want; refine quiet_zero56 z HZ.out (by rfl) ?_; go_simp; go_big_quiet_on)
                          | (go_big_quiet_step (fail))
                          | (go_big_quiet_want; refine quiet_load 56 _ (by rfl) _ (by rfl) _ l56 ?_; go_simp; go_big_quiet_on))
                        refine wpQuiet_nil ?_
                        rintro w12 ⟨⟨w11, hw11⟩, hw12⟩
                        have hww : w12 = w6.drew := hw12.trans hw11
                        clear hw12 hw11
                        subst hww
                        clear l4 l56 hne this
                        have c4 : w6.drew.cell? ⟨g, 4, none⟩ = some (.bool false) := by have := HX.out.box.cell 4 _ rfl; rwa [hdn] at this
                        go_upto_region 42 with fail
                        generalize w6.drew = w7 at *
                        clear c4
                        have HX := Lib.hid (HX.out.step (Below.refl _ _).drew)
                        obtain ⟨v, hv⟩ : ∃ v : Int, v = 0 := ⟨_, rfl⟩
                        have HV : Hid (E.reads (-1) = 0) := Lib.hid (HY.out.out _ (by omega))
                        subst hv
                        have RDC : ∀ y : WS (fun X => X = w7.drew), Calls Try.prog 71 #[.pointer (some ⟨d, 0, none⟩), .int .i64 (-1)] y.w fun e w' => e = .returned (.int .i64 0) ∧ y.w = w' := fun y => by
                          rw [y.ok]
                          have := ds_reads HX.out.ds (-1)
                          rwa [HV.out] at this
                        haveI : Nonempty (WS (fun X => X = w7.drew)) := ⟨⟨w7.drew, rfl⟩⟩
                        refine wp_region_ws (fun X => X = w7.drew) (by kernel_rfl) (by kernel_rfl) rfl ?_
                        repeat (go_big_quiet_step ((go_at_call 71; exact ws_same (RDC _))))
                        refine wpQuiet_nil ?_
                        rintro w12 ⟨⟨w11, hw11⟩, hw12⟩
                        have hww : w12 = w7.drew := hw12.trans hw11
                        clear hw12 hw11
                        subst hww
                        clear RDC this
                        go_wp2_with fail
                        exact ⟨⟨1, E, by omega, by first | rfl | (congr 1; omega) | (simp; omega), ⟨HX.out, HY.out.ri, HY.out.out⟩⟩, by simp only [intOf]; omega⟩
                · by_cases hk1 : k ≤ n
                  · obtain ⟨x, rfl⟩ : ∃ x, k = x + 1 := ⟨k - 1, by omega⟩
                    rw [show (((x + 1 : Nat) : Int) - 1) = (x : Int) by omega] at ha
                    subst ha
                    have hx0 : (0 : Int) ≤ (x : Int) := by omega
                    have hx1 : (x : Int) < (n : Int) := by omega
                    have hx2 : (x : Int) ≤ (n : Int) := by omega
                    have hxd0 : decide ((0 : Int) ≤ (x : Int)) = true := decide_eq_true hx0
                    have hxd1 : decide ((x : Int) < (n : Int)) = true := decide_eq_true hx1
                    cases hdn : r'.down with
                      | true =>
                        as_aux_lemma =>
                          have HM : Hid (E.may (x : Int) = 7) := Lib.hid (may_down (by rw [HY.out.ri.down, hdn]) _)
                          have R := Lib.hid (ds_read_no HY.out.pm.ds (x : Int) (by rw [HM.out]; decide))
                          rw [HM.out, ← HZ.out] at R
                          clear HM
                          go_wp2_with fail
                          refine R.out.mono ?_
                          rintro y w5 ⟨rfl, hS, hst⟩
                          have HX := Lib.hid (HY.out.pm.disk hS hst)
                          clear hS hst R
                          go_upto_region 37 with (refine wpList_new56 (by rfl) _ _ (by rfl) _ _ rfl (by rfl) (by rfl) z (by rfl) HZL.out ?_; intro w6 hbuf hw6 hlt6; have HX := Lib.hid (HX.out.step hw6); have HBF := Lib.hid hbuf; clear hbuf hw6 hlt6)
                          generalize w5.heap.size = pb at *
                          go_upto_region 38 with fail
                          have HX := Lib.hid (HX.out.step (Below.refl _ _).drew)
                          have HBF := Lib.hid HBF.out.drew
                          have l4 : ∀ y : WS (fun X => X = w6.drew), y.w.cell? ⟨g, 4, none⟩ = some (.bool true) := fun y => by rw [y.ok]; have := HX.out.box.cell 4 _ rfl; rwa [hdn] at this
                          have l56 : ∀ y : WS (fun X => X = w6.drew), (Instr.loadAt 56 (.pointer (some ⟨pb, 0, none⟩))).run Try.prog y.w = .ok (.agg (z.map bv).toArray) y.w := fun y => by rw [y.ok]; exact HBF.out.load56
                          have hne := HNE.out
                          haveI : Nonempty (WS (fun X => X = w6.drew)) := ⟨⟨w6.drew, rfl⟩⟩
                          refine wp_region_ws (fun X => X = w6.drew) (by kernel_rfl) (by kernel_rfl) rfl ?_
                          repeat (first
                            | (go_big_quiet_want; refine quiet_zero56 z HZ.out (by rfl) ?_; go_simp; go_big_quiet_on)
                            | (go_big_quiet_step (fail))
                            | (go_big_quiet_want; refine quiet_load 56 _ (by rfl) _ (by rfl) _ l56 ?_; go_simp; go_big_quiet_on))
                          refine wpQuiet_nil ?_
                          rintro w12 ⟨⟨w11, hw11⟩, hw12⟩
                          have hww : w12 = w6.drew := hw12.trans hw11
                          clear hw12 hw11
                          subst hww
                          clear l4 l56 hne this
                          have c4 : w6.drew.cell? ⟨g, 4, none⟩ = some (.bool true) := by have := HX.out.box.cell 4 _ rfl; rwa [hdn] at this
                          go_upto_region 42 with fail
                          generalize w6.drew = w7 at *
                          clear c4
                          have HX := Lib.hid (HX.out.step (Below.refl _ _).drew)
                          obtain ⟨v, hv⟩ : ∃ v, E.reads (x : Int) = v := ⟨_, rfl⟩
                          have HV := Lib.hid hv
                          have lq : ∀ y : WS (fun X => X = w7.drew), y.w.cell? ⟨q, x, none⟩ = some (.int .i64 v) := fun y => by rw [y.ok, ← HV.out]; exact HX.out.rd.cell x (by omega)
                          clear hv
                          have RDC : ∀ y : WS (fun X => X = w7.drew), Calls Try.prog 71 #[.pointer (some ⟨d, 0, none⟩), .int .i64 (x : Int)] y.w fun e w' => e = .returned (.int .i64 v) ∧ y.w = w' := fun y => by
                            rw [y.ok]
                            have := ds_reads HX.out.ds (x : Int)
                            rwa [HV.out] at this
                          haveI : Nonempty (WS (fun X => X = w7.drew)) := ⟨⟨w7.drew, rfl⟩⟩
                          refine wp_region_ws (fun X => X = w7.drew) (by kernel_rfl) (by kernel_rfl) rfl ?_
                          repeat (go_big_quiet_step ((go_at_call 71; exact ws_same (RDC _))))
                          refine wpQuiet_nil ?_
                          rintro w12 ⟨⟨w11, hw11⟩, hw12⟩
                          have hww : w12 = w7.drew := hw12.trans hw11
                          clear hw12 hw11
                          subst hww
                          clear RDC this lq
                          go_wp2_with fail
                          exact ⟨⟨x + 2, E, by omega, by first | rfl | (congr 1; omega) | (simp; omega), ⟨HX.out, HY.out.ri, HY.out.out⟩⟩, by simp only [intOf]; omega⟩
                      | false =>
                        as_aux_lemma =>
                          have HM : Hid (E.may (x : Int) = 0) := Lib.hid (may_ok (by rw [HY.out.ri.down, hdn]; decide) (by rw [HY.out.ri.size]; omega))
                          obtain ⟨pg, hpg⟩ : ∃ pg, E.seen (x : Int) = pg := ⟨_, rfl⟩
                          have R := Lib.hid (ds_read HY.out.pm.ds (x : Int) HM.out (by have := HY.out.ri.few; omega))
                          rw [hpg] at R
                          have HPL : Hid (pg.length = 64) := Lib.hid (hpg ▸ HY.out.ri.ok.seen _)
                          have HSX : Hid (∃ hx : x < r'.seen.length, r'.seen[x] = pg) := Lib.hid (by
                            have h1 := HY.out.ri.p2 x (by omega)
                            rw [hpg] at h1
                            have h2 := List.getElem?_eq_some_iff.1 h1
                            exact h2)
                          clear hpg
                          obtain ⟨gb, hgb⟩ : ∃ gb capb, b' = .slice (some ⟨gb, 0, none⟩) r'.seen.length capb := by
                            obtain ⟨b1, b3, e⟩ := ownsRow_form HY.out.pm.rf.seen
                            have h2 := HY.out.pm.rf.seen
                            rw [e] at h2
                            obtain ⟨gb, rfl⟩ := row_some h2 (by have := HSX.out.1; omega)
                            exact ⟨gb, b3, e⟩
                          obtain ⟨capb, rfl⟩ := hgb
                          have hxs : (x : Int) < (r'.seen.length : Int) := by have := HSX.out.1; omega
                          have hne : ∀ W, (binOp .neq 56 (.agg (pg.map bv).toArray) (.agg (pg.map bv).toArray)).run Try.prog W = .ok (.bool false) W := fun W => by
                            have := run_neq56 W pg pg HPL.out HPL.out
                            rwa [bne_self_eq_false] at this
                          have HNE2 := Lib.hid hne
                          clear hne

                          clear HM
                          go_wp2_with fail
                          refine R.out.mono ?_
                          rintro y w5 ⟨rfl, hS, hst⟩
                          have HX := Lib.hid (HY.out.pm.disk hS hst)
                          clear hS hst R
                          go_upto_region 37 with (refine wpList_new56 (by rfl) _ _ (by rfl) _ _ rfl (by rfl) (by rfl) pg (by rfl) HPL.out ?_; intro w6 hbuf hw6 hlt6; have HX := Lib.hid (HX.out.step hw6); have HBF := Lib.hid hbuf; clear hbuf hw6 hlt6)
                          generalize w5.heap.size = pb at *
                          go_upto_region 38 with fail
                          have HX := Lib.hid (HX.out.step (Below.refl _ _).drew)
                          have HBF := Lib.hid HBF.out.drew
                          have l4 : ∀ y : WS (fun X => X = w6.drew), y.w.cell? ⟨g, 4, none⟩ = some (.bool false) := fun y => by rw [y.ok]; have := HX.out.box.cell 4 _ rfl; rwa [hdn] at this
                          have l56 : ∀ y : WS (fun X => X = w6.drew), (Instr.loadAt 56 (.pointer (some ⟨pb, 0, none⟩))).run Try.prog y.w = .ok (.agg (pg.map bv).toArray) y.w := fun y => by rw [y.ok]; exact HBF.out.load56
                          have hne := HNE2.out
                          have l1 : ∀ y : WS (fun X => X = w6.drew), y.w.cell? ⟨g, 1, none⟩ = some (.slice (some ⟨gb, 0, none⟩) r'.seen.length capb) := fun y => by rw [y.ok]; exact HX.out.box.cell 1 _ rfl
                          have l55 : ∀ y : WS (fun X => X = w6.drew), (Instr.loadAt 55 (.pointer (some ⟨gb, x * 64, none⟩))).run Try.prog y.w = .ok (.agg (pg.map bv).toArray) y.w := fun y => by
                            rw [y.ok]
                            obtain ⟨hx, e⟩ := HSX.out
                            have := row_page HX.out.rf.seen HX.out.rf.n64 x hx
                            rw [e] at this
                            exact load55_at HPL.out this
                          haveI : Nonempty (WS (fun X => X = w6.drew)) := ⟨⟨w6.drew, rfl⟩⟩
                          refine wp_region_ws (fun X => X = w6.drew) (by kernel_rfl) (by kernel_rfl) rfl ?_
                          repeat (first
                            | (go_big_quiet_want; refine quiet_zero56 z HZ.out (by rfl) ?_; go_simp; go_big_quiet_on)
                            | (go_big_quiet_step (fail))
                            | (go_big_quiet_want; refine quiet_load 56 _ (by rfl) _ (by rfl) _ l56 ?_; go_simp; go_big_quiet_on)
                            | (go_big_quiet_want; refine quiet_load 55 _ (by rfl) _ (by rfl) _ l55 ?_; go_simp; go_big_quiet_on))
                          refine wpQuiet_nil ?_
                          rintro w12 ⟨⟨w11, hw11⟩, hw12⟩
                          have hww : w12 = w6.drew := hw12.trans hw11
                          clear hw12 hw11
                          subst hww
                          clear l4 l56 hne this l1 l55
                          have c4 : w6.drew.cell? ⟨g, 4, none⟩ = some (.bool false) := by have := HX.out.box.cell 4 _ rfl; rwa [hdn] at this
                          have kq : w6.drew.cell? ⟨q, x, none⟩ = some (.int .i64 (E.reads (x : Int))) := HX.out.rd.cell x (by omega)
                          have fq : w6.drew.frozen? ⟨q, x, none⟩ = false := HX.out.rd.fz x
                          go_upto_region 42 with fail
                          have HX := Lib.hid (HX.out.bump x (by omega) (wrap64 (E.reads (x : Int) + 1)))
                          have HX := Lib.hid (show PM w _ d m1 m2 g q (E.read (x : Int)) r' n (E.read (x : Int)).reads _ _ _ _ [] from HX.out)
                          change Code.wp _ _ _ _ (w6.drew.setCell ⟨q, x, none⟩ (.int .i64 (wrap64 (E.reads (x : Int) + 1))))
                          generalize w6.drew.setCell ⟨q, x, none⟩ (.int .i64 (wrap64 (E.reads (x : Int) + 1))) = w7 at *
                          clear c4 kq fq
                          have HX := Lib.hid (HX.out.step (Below.refl _ _).drew)
                          obtain ⟨v, hv⟩ : ∃ v, (E.read (x : Int)).reads (x : Int) = v := ⟨_, rfl⟩
                          have HV := Lib.hid hv
                          have RDC : ∀ y : WS (fun X => X = w7.drew), Calls Try.prog 71 #[.pointer (some ⟨d, 0, none⟩), .int .i64 (x : Int)] y.w fun e w' => e = .returned (.int .i64 v) ∧ y.w = w' := fun y => by
                            rw [y.ok]
                            have := ds_reads HX.out.ds (x : Int)
                            rwa [HV.out] at this
                          have lq : ∀ y : WS (fun X => X = w7.drew), y.w.cell? ⟨q, x, none⟩ = some (.int .i64 v) := fun y => by rw [y.ok, ← HV.out]; exact HX.out.rd.cell x (by omega)
                          clear hv
                          haveI : Nonempty (WS (fun X => X = w7.drew)) := ⟨⟨w7.drew, rfl⟩⟩
                          refine wp_region_ws (fun X => X = w7.drew) (by kernel_rfl) (by kernel_rfl) rfl ?_
                          repeat (go_big_quiet_step ((go_at_call 71; exact ws_same (RDC _))))
                          refine wpQuiet_nil ?_
                          rintro w12 ⟨⟨w11, hw11⟩, hw12⟩
                          have hww : w12 = w7.drew := hw12.trans hw11
                          clear hw12 hw11
                          subst hww
                          clear lq RDC this
                          go_wp2_with fail
                          exact ⟨⟨x + 2, E.read (x : Int), by omega, by first | rfl | (congr 1; omega) | (simp; omega), ⟨HX.out, HY.out.ri.read _, fun j hj => (if_neg (by omega)).trans (HY.out.out j hj)⟩⟩, by simp only [intOf]; omega⟩
                  · by_cases hk2 : k = n + 1
                    · subst hk2
                      rw [show (((n + 1 : Nat) : Int) - 1) = (n : Int) by omega] at ha
                      subst ha
                      have hx0 : (0 : Int) ≤ (n : Int) := by omega
                      have hxd0 : decide ((0 : Int) ≤ (n : Int)) = true := decide_eq_true hx0
                      cases hdn : r'.down with
                        | true =>
                          as_aux_lemma =>
                            have HM : Hid (E.may (n : Int) = 7) := Lib.hid (may_down (by rw [HY.out.ri.down, hdn]) _)
                            have R := Lib.hid (ds_read_no HY.out.pm.ds (n : Int) (by rw [HM.out]; decide))
                            rw [HM.out, ← HZ.out] at R
                            clear HM
                            go_wp2_with fail
                            refine R.out.mono ?_
                            rintro y w5 ⟨rfl, hS, hst⟩
                            have HX := Lib.hid (HY.out.pm.disk hS hst)
                            clear hS hst R
                            go_upto_region 37 with (refine wpList_new56 (by rfl) _ _ (by rfl) _ _ rfl (by rfl) (by rfl) z (by rfl) HZL.out ?_; intro w6 hbuf hw6 hlt6; have HX := Lib.hid (HX.out.step hw6); have HBF := Lib.hid hbuf; clear hbuf hw6 hlt6)
                            generalize w5.heap.size = pb at *
                            go_upto_region 38 with fail
                            have HX := Lib.hid (HX.out.step (Below.refl _ _).drew)
                            have HBF := Lib.hid HBF.out.drew
                            have l4 : ∀ y : WS (fun X => X = w6.drew), y.w.cell? ⟨g, 4, none⟩ = some (.bool true) := fun y => by rw [y.ok]; have := HX.out.box.cell 4 _ rfl; rwa [hdn] at this
                            have l56 : ∀ y : WS (fun X => X = w6.drew), (Instr.loadAt 56 (.pointer (some ⟨pb, 0, none⟩))).run Try.prog y.w = .ok (.agg (z.map bv).toArray) y.w := fun y => by rw [y.ok]; exact HBF.out.load56
                            have hne := HNE.out
                            haveI : Nonempty (WS (fun X => X = w6.drew)) := ⟨⟨w6.drew, rfl⟩⟩
                            refine wp_region_ws (fun X => X = w6.drew) (by kernel_rfl) (by kernel_rfl) rfl ?_
                            repeat (first
                              | (go_big_quiet_want; refine quiet_zero56 z HZ.out (by rfl) ?_; go_simp; go_big_quiet_on)
                              | (go_big_quiet_step (fail))
                              | (go_big_quiet_want; refine quiet_load 56 _ (by rfl) _ (by rfl) _ l56 ?_; go_simp; go_big_quiet_on))
                            refine wpQuiet_nil ?_
                            rintro w12 ⟨⟨w11, hw11⟩, hw12⟩
                            have hww : w12 = w6.drew := hw12.trans hw11
                            clear hw12 hw11
                            subst hww
                            clear l4 l56 hne this
                            have c4 : w6.drew.cell? ⟨g, 4, none⟩ = some (.bool true) := by have := HX.out.box.cell 4 _ rfl; rwa [hdn] at this
                            go_upto_region 42 with fail
                            generalize w6.drew = w7 at *
                            clear c4
                            have HX := Lib.hid (HX.out.step (Below.refl _ _).drew)
                            obtain ⟨v, hv⟩ : ∃ v : Int, v = 0 := ⟨_, rfl⟩
                            have HV : Hid (E.reads (n : Int) = 0) := Lib.hid (HY.out.out _ (by omega))
                            subst hv
                            have RDC : ∀ y : WS (fun X => X = w7.drew), Calls Try.prog 71 #[.pointer (some ⟨d, 0, none⟩), .int .i64 (n : Int)] y.w fun e w' => e = .returned (.int .i64 0) ∧ y.w = w' := fun y => by
                              rw [y.ok]
                              have := ds_reads HX.out.ds (n : Int)
                              rwa [HV.out] at this
                            haveI : Nonempty (WS (fun X => X = w7.drew)) := ⟨⟨w7.drew, rfl⟩⟩
                            refine wp_region_ws (fun X => X = w7.drew) (by kernel_rfl) (by kernel_rfl) rfl ?_
                            repeat (go_big_quiet_step ((go_at_call 71; exact ws_same (RDC _))))
                            refine wpQuiet_nil ?_
                            rintro w12 ⟨⟨w11, hw11⟩, hw12⟩
                            have hww : w12 = w7.drew := hw12.trans hw11
                            clear hw12 hw11
                            subst hww
                            clear RDC this
                            go_wp2_with fail
                            exact ⟨⟨n + 2, E, by omega, by first | rfl | (congr 1; omega) | (simp; omega), ⟨HX.out, HY.out.ri, HY.out.out⟩⟩, by simp only [intOf]; omega⟩
                        | false =>
                          as_aux_lemma =>
                            have HM : Hid (E.may (n : Int) = 1) := Lib.hid (may_arg (by rw [HY.out.ri.down, hdn]; decide) (by rw [HY.out.ri.size]; omega))
                            have R := Lib.hid (ds_read_no HY.out.pm.ds (n : Int) (by rw [HM.out]; decide))
                            rw [HM.out, ← HZ.out] at R
                            clear HM
                            go_wp2_with fail
                            refine R.out.mono ?_
                            rintro y w5 ⟨rfl, hS, hst⟩
                            have HX := Lib.hid (HY.out.pm.disk hS hst)
                            clear hS hst R
                            go_upto_region 37 with (refine wpList_new56 (by rfl) _ _ (by rfl) _ _ rfl (by rfl) (by rfl) z (by rfl) HZL.out ?_; intro w6 hbuf hw6 hlt6; have HX := Lib.hid (HX.out.step hw6); have HBF := Lib.hid hbuf; clear hbuf hw6 hlt6)
                            generalize w5.heap.size = pb at *
                            go_upto_region 38 with fail
                            have HX := Lib.hid (HX.out.step (Below.refl _ _).drew)
                            have HBF := Lib.hid HBF.out.drew
                            have l4 : ∀ y : WS (fun X => X = w6.drew), y.w.cell? ⟨g, 4, none⟩ = some (.bool false) := fun y => by rw [y.ok]; have := HX.out.box.cell 4 _ rfl; rwa [hdn] at this
                            have l56 : ∀ y : WS (fun X => X = w6.drew), (Instr.loadAt 56 (.pointer (some ⟨pb, 0, none⟩))).run Try.prog y.w = .ok (.agg (z.map bv).toArray) y.w := fun y => by rw [y.ok]; exact HBF.out.load56
                            have hne := HNE.out
                            haveI : Nonempty (WS (fun X => X = w6.drew)) := ⟨⟨w6.drew, rfl⟩⟩
                            refine wp_region_ws (fun X => X = w6.drew) (by kernel_rfl) (by kernel_rfl) rfl ?_
                            repeat (first
                              | (go_big_quiet_want; refine quiet_zero56 z HZ.out (by rfl) ?_; go_simp; go_big_quiet_on)
                              | (go_big_quiet_step (fail))
                              | (go_big_quiet_want; refine quiet_load 56 _ (by rfl) _ (by rfl) _ l56 ?_; go_simp; go_big_quiet_on))
                            refine wpQuiet_nil ?_
                            rintro w12 ⟨⟨w11, hw11⟩, hw12⟩
                            have hww : w12 = w6.drew := hw12.trans hw11
                            clear hw12 hw11
                            subst hww
                            clear l4 l56 hne this
                            have c4 : w6.drew.cell? ⟨g, 4, none⟩ = some (.bool false) := by have := HX.out.box.cell 4 _ rfl; rwa [hdn] at this
                            go_upto_region 42 with fail
                            generalize w6.drew = w7 at *
                            clear c4
                            have HX := Lib.hid (HX.out.step (Below.refl _ _).drew)
                            obtain ⟨v, hv⟩ : ∃ v : Int, v = 0 := ⟨_, rfl⟩
                            have HV : Hid (E.reads (n : Int) = 0) := Lib.hid (HY.out.out _ (by omega))
                            subst hv
                            have RDC : ∀ y : WS (fun X => X = w7.drew), Calls Try.prog 71 #[.pointer (some ⟨d, 0, none⟩), .int .i64 (n : Int)] y.w fun e w' => e = .returned (.int .i64 0) ∧ y.w = w' := fun y => by
                              rw [y.ok]
                              have := ds_reads HX.out.ds (n : Int)
                              rwa [HV.out] at this
                            haveI : Nonempty (WS (fun X => X = w7.drew)) := ⟨⟨w7.drew, rfl⟩⟩
                            refine wp_region_ws (fun X => X = w7.drew) (by kernel_rfl) (by kernel_rfl) rfl ?_
                            repeat (go_big_quiet_step ((go_at_call 71; exact ws_same (RDC _))))
                            refine wpQuiet_nil ?_
                            rintro w12 ⟨⟨w11, hw11⟩, hw12⟩
                            have hww : w12 = w7.drew := hw12.trans hw11
                            clear hw12 hw11
                            subst hww
                            clear RDC this
                            go_wp2_with fail
                            exact ⟨⟨n + 2, E, by omega, by first | rfl | (congr 1; omega) | (simp; omega), ⟨HX.out, HY.out.ri, HY.out.out⟩⟩, by simp only [intOf]; omega⟩
                    · obtain rfl : k = n + 2 := by omega
                      rw [show (((n + 2 : Nat) : Int) - 1) = (n : Int) + 1 by omega] at ha
                      subst ha
                      have hx0 : ¬ ((n : Int) + 1 ≤ (n : Int)) := by omega
                      obtain ⟨c1, c3, hc⟩ := ownsRow_form HY.out.pm.rf.at_
                      have HLL : Hid (E.loose.length = r'.at_.length) := Lib.hid (by rw [HY.out.ri.at_, List.length_map])
                      go_upto_region 44 with fail
                      have HX := Lib.hid (HY.out.pm.step (Below.refl _ _).drew)
                      have L58 : ∀ y : WS (fun X => X = wr.drew), Calls Try.prog 58 #[.pointer (some ⟨d, 0, none⟩)] y.w fun e w' => e = .returned (.int .i64 (r'.at_.length : Nat)) ∧ y.w = w' := fun y => by
                        rw [y.ok]
                        have := ds_loose HX.out.ds
                        rwa [HLL.out] at this
                      have L65 : ∀ y : WS (fun X => X = wr.drew), Calls Try.prog 65 #[.pointer (some ⟨d, 0, none⟩)] y.w fun e w' => e = .returned (.int .i64 (n : Int)) ∧ y.w = w' := fun y => by
                        rw [y.ok]
                        have := ds_size HX.out.ds
                        rwa [HY.out.ri.size] at this
                      have l2 : ∀ y : WS (fun X => X = wr.drew), y.w.cell? ⟨g, 2, none⟩ = some (.slice c1 r'.at_.length c3) := fun y => by
                        rw [y.ok, ← hc]
                        exact HX.out.box.cell 2 _ rfl
                      have HC1 := Lib.hid hc
                      clear hc
                      haveI : Nonempty (WS (fun X => X = wr.drew)) := ⟨⟨wr.drew, rfl⟩⟩
                      refine wp_region_ws (fun X => X = wr.drew) (by kernel_rfl) (by kernel_rfl) rfl ?_
                      repeat (go_big_quiet_step (first | (go_at_call 58; exact ws_same (L58 _)) | (go_at_call 65; exact ws_same (L65 _))))
                      refine wpQuiet_nil ?_
                      rintro w12 ⟨⟨w11, hw11⟩, hw12⟩
                      have hww : w12 = wr.drew := hw12.trans hw11
                      clear hw12 hw11
                      subst hww
                      clear L58 L65 l2 this
                      go_wp2_with fail
                      exact ⟨⟨i + 1, E, r', a', b', c', e', by omega, by simp, ⟨HX.out, HY.out.ri, HY.out.out⟩⟩, by simp only [intOf]; omega⟩
            case first =>
              have HIN := Lib.hid (show i < 60 by omega)
              have HBW := Lib.hid HX.out.ds.below.size
              have HF1 := Lib.hid HRI.out.1.f1
              have HLO : Hid (D.loose.length ≤ 100000) := Lib.hid (by have := HRI.out.1.few; have := HIN.out; omega)
              by_cases h4 : ac.act % 8 = 4
              · have h4b : (((ac.act : Int) % 8) == 4) = true := by rw [beq_iff_eq]; omega
                focus
                  have SY : Hid (Calls Try.prog 67 #[.agg #[a, b, c, e, .bool r.down, .int .i64 r.fuse]] w8 fun y w' => RfAns w8 w.heap.size a b c e r.sync y w') := Lib.hid (rsync HX.out.rf HBW.out HF1.out)
                  have SD := Lib.hid (fun X (h : DS w X d m1 m2 D ([sb] ++ g :: q :: rv4 a b c e)) => h)
                  have HRN := Lib.hid HRI.out.1.sync
                  have HRE := Lib.hid (syncR_reads D)
                  have DSY := Lib.hid (fun X (l : List Nat) (h : DS w X d m1 m2 D l) => ds_syncR h (by rw [HRI.out.1.size]; omega) (by rw [HRI.out.1.fuse]; exact HF1.out) HLO.out)
                  generalize D.syncR = RD at *
                  generalize r.sync = RR at *
                  obtain ⟨D', e4⟩ := RD
                  obtain ⟨r', e5⟩ := RR
                  obtain rfl : e4 = e5 := HRN.out.2
                  clear h4 k0 SD
                  go_wp2_with ((refine wpList_load102 (e1 := g) (cs1 := [a, b, c, e, .bool r.down, .int .i64 r.fuse]) (by rfl) (.tmp 7) (by rfl) ?_ ?_ ?_; exact HX.out.box; rfl))
                  refine SY.out.mono ?_
                  rintro y w9 ⟨a', b', c', e', rfl, hr, hb9, hown⟩
                  have HR2 := Lib.hid hr
                  have HOW := Lib.hid hown
                  have HB9 := Lib.hid hb9
                  clear hr hown hb9 SY
                  unfold rfV
                  dsimp only
                  go_upto_region 21 with ((refine wpList_new102 (by rfl) (.tmp 11) (.tmp 94) (by rfl) w9 _ rfl (by rfl) (by rfl) [a', b', c', e', .bool r'.down, .int .i64 r'.fuse] (by rfl) ?_ ?_ ?_; rfl; exact HR2.out.ones; intro w10 hbx hb10 hlt10; have HBX := Lib.hid (And.intro hbx (And.intro hb10 hlt10)); clear hbx hb10 hlt10))
                  have HBA := Lib.hid (HB9.out.trans (HBX.out.2.1.mono HB9.out.size))
                  have HXs := Lib.hid (HX.out.step HBA.out)
                  have HX := Lib.hid (HX.out.put HBA.out (HR2.out.below HBX.out.2.1) HOW.out)
                  go_upto_region 22 with (first
                    | (refine wpList_load102 (e1 := w9.heap.size) (cs1 := [a', b', c', e', .bool r'.down, .int .i64 r'.fuse]) (by rfl) (.tmp 11) (by rfl) ?_ ?_ ?_; exact HBX.out.1; rfl)
                    | (refine wpList_store102 (e1 := g) (cs1 := [a, b, c, e, .bool r.down, .int .i64 r.fuse]) (by rfl) (.tmp 7) (.tmp 96) (by rfl) [a', b', c', e', .bool r'.down, .int .i64 r'.fuse] ?_ ?_ ?_ ?_ ?_ ?_; exact HXs.out.box; rfl; rfl; rfl; exact HR2.out.ones))
                  change Code.wp _ _ _ _ (w10.setCells g 0 [a', b', c', e', .bool r'.down, .int .i64 r'.fuse])
                  generalize w10.setCells g 0 [a', b', c', e', .bool r'.down, .int .i64 r'.fuse] = w11 at *
                  have DSY := Lib.hid (DSY.out _ _ HX.out.ds)
                  clear HXs HBX HBA HB9 HOW HR2
                  go_wp2_with fail
                  refine DSY.out.mono ?_
                  rintro y w12 ⟨rfl, hS, hst⟩
                  have HX := Lib.hid (HX.out.disk hS hst).less
                  clear hS hst DSY
                  go_wp2_with fail
                  go_meet
                  case rel => exact ⟨D', r', a', b', c', e', HX.out, HRN.out.1, HRE.out⟩
              · have h4b : (((ac.act : Int) % 8) == 4) = false := by rw [beq_eq_false_iff_ne]; omega
                by_cases h5 : ac.act % 8 = 5
                · have h5b : (((ac.act : Int) % 8) == 5) = true := by rw [beq_iff_eq]; omega
                  focus
                    obtain ⟨ka, kcap, hkv, _⟩ := HKP.out
                    have HKA : Hid (KeepAt w (.slice ka ac.kn kcap) ac.kn ac.ks) := Lib.hid (hkv ▸ HKP.out)
                    have HG3 : Hid ((actC ac)[66]? = some (.slice ka ac.kn kcap)) := Lib.hid (hkv ▸ HG.out.2.2.2)
                    have k66 : w8.cell? ⟨sb, 66, none⟩ = some (.slice ka ac.kn kcap) := range_cell HRG.out 66 _ HG3.out
                    have CRC := Lib.hid (fun X (l : List Nat) (h : DS w X d m1 m2 D l) => ds_crash_arg h HLO.out (.slice ka ac.kn kcap) ac.kn ac.ks HKA.out)
                    have HRN := Lib.hid (HRI.out.1.crash (kept ac.kn ac.ks))
                    have RCF : Hid (∀ X, RfAt X w.heap.size a b c e r → Below w.heap.size w X → Calls Try.prog 68 #[.agg #[a, b, c, e, .bool r.down, .int .i64 r.fuse], .slice ka ac.kn kcap] X fun y w' => ∃ a' b', y = .returned (.agg #[a', b', .slice none 0 0, .slice none 0 0, .bool (r.crash (kept ac.kn ac.ks)).down, .int .i64 (r.crash (kept ac.kn ac.ks)).fuse]) ∧ RfAt w' w.heap.size a' b' (.slice none 0 0) (.slice none 0 0) (r.crash (kept ac.kn ac.ks)) ∧ Below X.heap.size X w' ∧ ∀ x ∈ rv4 a' b' (.slice none 0 0) (.slice none 0 0), x ∈ rv4 a b c e ∨ X.heap.size ≤ x) := Lib.hid fun X h hb => rcrash h hb.size _ ac.kn ac.ks (HKA.out.below hb) HKN.out HRI.out.1.crH
                    generalize r.crash (kept ac.kn ac.ks) = r' at *
                    clear h4 h5 k0 hkv
                    go_wp2_with fail
                    refine (CRC.out _ _ HX.out.ds).mono ?_
                    rintro y w9 ⟨rfl, hS, hst⟩
                    have k66 : w9.cell? ⟨sb, 66, none⟩ = some (.slice ka ac.kn kcap) := range_cell (range_stays HRG.out hst (.head _)) 66 _ HG3.out
                    have HX := Lib.hid (HX.out.disk hS hst)
                    have RC := Lib.hid (RCF.out _ HX.out.rf HX.out.ds.below)
                    clear hS hst CRC RCF
                    go_wp2_with (refine wpList_load102 (e1 := g) (cs1 := [a, b, c, e, .bool r.down, .int .i64 r.fuse]) (by rfl) (.tmp 7) (by rfl) ?_ ?_ ?_; exact HX.out.box; rfl)
                    refine RC.out.mono ?_
                    rintro y w10 ⟨a', b', rfl, hr, hb, hown⟩
                    have HXs := Lib.hid (HX.out.step hb)
                    have HXp := Lib.hid (HX.out.put hb hr hown).less
                    have HR2 := Lib.hid hr
                    clear hr hb hown RC k66 HX
                    go_wp2_with (refine wpList_store102 (e1 := g) (cs1 := [a, b, c, e, .bool r.down, .int .i64 r.fuse]) (by rfl) (.tmp 7) (.tmp 110) (by rfl) [a', b', .slice none 0 0, .slice none 0 0, .bool r'.down, .int .i64 r'.fuse] ?_ ?_ ?_ ?_ ?_ ?_; exact HXs.out.box; rfl; rfl; rfl; exact HR2.out.ones)
                    go_meet
                    case rel => exact ⟨_, r', a', b', _, _, HXp.out, HRN.out, rfl⟩
                · have h5b : (((ac.act : Int) % 8) == 5) = false := by rw [beq_eq_false_iff_ne]; omega
                  by_cases h6 : ac.act % 8 = 6
                  · have h6b : (((ac.act : Int) % 8) == 6) = true := by rw [beq_iff_eq]; omega
                    focus
                      have UPC := Lib.hid (fun X (l : List Nat) (h : DS w X d m1 m2 D l) => ds_up h)
                      have HRN := Lib.hid HRI.out.1.up
                      clear h4 h5 h6 k0
                      go_wp2_with fail
                      refine (UPC.out _ _ HX.out.ds).mono ?_
                      rintro y w9 ⟨rfl, hS, hst⟩
                      have HX := Lib.hid (HX.out.disk hS hst).less
                      have c4 := HX.out.box.cell 4 _ rfl
                      have f4 := HX.out.box.fz 4 (by decide)
                      clear hS hst UPC
                      go_wp2_with fail
                      go_meet
                      case rel => exact ⟨_, _, a, b, c, e, HX.out.setDown false, HRN.out, rfl⟩
                  · have h6b : (((ac.act : Int) % 8) == 6) = false := by rw [beq_eq_false_iff_ne]; omega
                    by_cases h7 : ac.act % 8 = 7
                    · have h7b : (((ac.act : Int) % 8) == 7) = true := by rw [beq_iff_eq]; omega
                      focus
                        have k1 : w8.cell? ⟨sb, 1, none⟩ = some (.int .i64 ac.at_) := range_cell HRG.out 1 _ HG.out.2.1
                        have FUC := Lib.hid (fun X (l : List Nat) (h : DS w X d m1 m2 D l) => ds_fuse h ac.at_)
                        have HRN := Lib.hid (HRI.out.1.fused ac.at_ HAT.out.2)
                        clear h4 h5 h6 h7 k0
                        go_wp2_with fail
                        refine (FUC.out _ _ HX.out.ds).mono ?_
                        rintro y w9 ⟨rfl, hS, hst⟩
                        have k1 : w9.cell? ⟨sb, 1, none⟩ = some (.int .i64 ac.at_) := range_cell (range_stays HRG.out hst (.head _)) 1 _ HG.out.2.1
                        have HX := Lib.hid (HX.out.disk hS hst).less
                        have c5 := HX.out.box.cell 5 _ rfl
                        have f5 := HX.out.box.fz 5 (by decide)
                        clear hS hst FUC
                        by_cases hx : -1 ≤ ac.at_
                        · rw [show max ac.at_ (-1) = ac.at_ by omega] at HX HRN
                          go_wp2_with fail
                          go_meet
                          case rel => exact ⟨_, _, a, b, c, e, HX.out.setFuse ac.at_, HRN.out, rfl⟩
                        · rw [show max ac.at_ (-1) = -1 by omega] at HX HRN
                          go_wp2_with fail
                          go_meet
                          case rel => exact ⟨_, _, a, b, c, e, HX.out.setFuse (-1), HRN.out, rfl⟩
                    · have h7b : (((ac.act : Int) % 8) == 7) = false := by rw [beq_eq_false_iff_ne]; omega
                      focus
                        have k1 : w8.cell? ⟨sb, 1, none⟩ = some (.int .i64 ac.at_) := range_cell HRG.out 1 _ HG.out.2.1
                        have WR : Hid (Calls Try.prog 70 #[.agg #[a, b, c, e, .bool r.down, .int .i64 r.fuse], .int .i64 ac.at_, .agg (ac.p.map bv).toArray] w8 fun y w' => RfAns w8 w.heap.size a b c e (r.write ac.at_ ac.p) y w') := Lib.hid (rwrite HX.out.rf HBW.out HF1.out ac.at_ ac.p HLN.out (by rw [HRI.out.1.s1, HRI.out.1.s2]) (HRI.out.1.fewer (by have := HIN.out; omega)))
                        have HRN := Lib.hid (HRI.out.1.write ac.at_ ac.p HLN.out)
                        have HRE := Lib.hid (writeR_reads D ac.at_ ac.p)
                        have DSW := Lib.hid (fun X (l : List Nat) (h : DS w X d m1 m2 D l) => ds_writeR h ac.at_ ac.p HLN.out (by rw [HRI.out.1.fuse]; exact HF1.out) HLO.out)
                        generalize D.writeR ac.at_ ac.p = RD at *
                        generalize r.write ac.at_ ac.p = RR at *
                        obtain ⟨D', e4⟩ := RD
                        obtain ⟨r', e5⟩ := RR
                        obtain rfl : e4 = e5 := HRN.out.2
                        clear h4 h5 h6 h7 k0
                        go_wp2_with (first | (refine wpList_load102 (e1 := g) (cs1 := [a, b, c, e, .bool r.down, .int .i64 r.fuse]) (by rfl) (.tmp 7) (by rfl) ?_ ?_ ?_; exact HX.out.box; rfl) | (refine wpList_load56o (.tmp 75) (by rfl) (by rfl) sb 2 (by rfl) ac.p ?_ ?_ ?_; exact HLN.out; exact range_page HRG.out HLN.out))
                        refine WR.out.mono ?_
                        rintro y w9 ⟨a', b', c', e', rfl, hr, hb9, hown⟩
                        have HR2 := Lib.hid hr
                        have HOW := Lib.hid hown
                        have HB9 := Lib.hid hb9
                        clear hr hown hb9 WR k1
                        unfold rfV
                        dsimp only
                        go_upto_region 16 with ((refine wpList_new102 (by rfl) (.tmp 13) (.tmp 78) (by rfl) w9 _ rfl (by rfl) (by rfl) [a', b', c', e', .bool r'.down, .int .i64 r'.fuse] (by rfl) ?_ ?_ ?_; rfl; exact HR2.out.ones; intro w10 hbx hb10 hlt10; have HBX := Lib.hid (And.intro hbx (And.intro hb10 hlt10)); clear hbx hb10 hlt10))
                        have HBA := Lib.hid (HB9.out.trans (HBX.out.2.1.mono HB9.out.size))
                        have HXs := Lib.hid (HX.out.step HBA.out)
                        have HRG := Lib.hid (range_block (range_block HRG.out (HBA.out.block sb (HX.out.gt (.head _)))) (setCells_block g 0 [a', b', c', e', .bool r'.down, .int .i64 r'.fuse] w10 sb (Nat.ne_of_gt HSG.out)))
                        have HX := Lib.hid (HX.out.put HBA.out (HR2.out.below HBX.out.2.1) HOW.out)
                        go_upto_region 17 with (first
                          | (refine wpList_load102 (e1 := w9.heap.size) (cs1 := [a', b', c', e', .bool r'.down, .int .i64 r'.fuse]) (by rfl) (.tmp 13) (by rfl) ?_ ?_ ?_; exact HBX.out.1; rfl)
                          | (refine wpList_store102 (e1 := g) (cs1 := [a, b, c, e, .bool r.down, .int .i64 r.fuse]) (by rfl) (.tmp 7) (.tmp 80) (by rfl) [a', b', c', e', .bool r'.down, .int .i64 r'.fuse] ?_ ?_ ?_ ?_ ?_ ?_; exact HXs.out.box; rfl; rfl; rfl; exact HR2.out.ones))
                        change Code.wp _ _ _ _ (w10.setCells g 0 [a', b', c', e', .bool r'.down, .int .i64 r'.fuse])
                        generalize w10.setCells g 0 [a', b', c', e', .bool r'.down, .int .i64 r'.fuse] = w11 at *
                        have DSW := Lib.hid (DSW.out _ _ HX.out.ds)
                        have k1 : w11.cell? ⟨sb, 1, none⟩ = some (.int .i64 ac.at_) := range_cell HRG.out 1 _ HG.out.2.1
                        clear HXs HBX HBA HB9 HOW HR2
                        go_wp2_with ((refine wpList_load56o (.tmp 84) (by rfl) (by rfl) sb 2 (by rfl) ac.p ?_ ?_ ?_; exact HLN.out; exact range_page HRG.out HLN.out))
                        refine DSW.out.mono ?_
                        rintro y w12 ⟨rfl, hS, hst⟩
                        have HX := Lib.hid (HX.out.disk hS hst).less
                        clear hS hst DSW
                        go_wp2_with fail
                        go_meet
                        case rel => exact ⟨D', r', a', b', c', e', HX.out, HRN.out.1, HRE.out⟩
          · have hke : i = N := by omega
            subst hke
            go_wp2_with fail
            go_ret
            exact ⟨rfl, HZ.out.pm.ds.below⟩
  · go_wp2_with fail
    refine (A.out _).mono ?_
    rintro r w3 ⟨rfl, hb⟩
    go_wp2_with fail
    go_ret
    exact ⟨rfl, HB.out.trans (hb.mono HB.out.size)⟩
end Go.Proofs.Ytmaaljfcnnlnpaa
