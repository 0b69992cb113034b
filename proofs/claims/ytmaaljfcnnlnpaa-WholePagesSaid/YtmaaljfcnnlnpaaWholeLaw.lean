/-
  The walk of the law WholePages.
-/
import Derived.Test.YtmaaljfcnnlnpaaEntry3
import Derived.Test.YtmaaljfcnnlnpaaFragLaw2
import Derived.Test.YtmaaljfcnnlnpaaPageLaw1
import Derived.Deep.CutBlock
namespace Go.Proofs.Ytmaaljfcnnlnpaa
open Go.RowKit

section
variable {ops : Array Oper} {rest : List Oper} {op : Oper} {a : Act} {w : World} {Q : Exit → Act → World → Prop}
/-- A page in a block of its own, which may be written. -/
theorem wpList_new44f (hgd : op.guard = none) (x y : Operand) (ho : op.op = .store 44 x y) (w0 : World) (c : Array Value) (hw : w = w0.alloc (.cells c 44)) (hc : c = #[.int .u32 0, .int .u32 0, .int .i64 0, .bool false, .bool false, .string ⟨#[]⟩]) (hx : a.eval x = .pointer (some ⟨w0.heap.size, 0, none⟩))
    (p : Pg) (hy : a.eval y = .agg #[.int .u32 p.ep, .int .u32 p.nu, .int .i64 p.ki, .bool p.fi, .bool p.la, .string ⟨p.da.toArray⟩])
    (h : ∀ W', PgAt W' w0.heap.size 0 p → (∀ i, W'.frozen? ⟨w0.heap.size, i, none⟩ = false) → Below w0.heap.size w0 W' → w0.heap.size < W'.heap.size → wpList Try.prog ops Q rest (a.put op.dst undef) W') : wpList Try.prog ops Q (op :: rest) a w := by
  subst hw hc
  have hz : PgAt (w0.alloc (.cells #[.int .u32 0, .int .u32 0, .int .i64 0, .bool false, .bool false, .string ⟨#[]⟩] 44)) w0.heap.size 0 noPg := by
    refine ⟨?_, ?_, ?_, ?_, ?_, ?_⟩ <;> rw [World.cell?_alloc_new] <;> rfl
  have hf : ∀ i, (w0.alloc (.cells #[.int .u32 0, .int .u32 0, .int .i64 0, .bool false, .bool false, .string ⟨#[]⟩] 44)).frozen? ⟨w0.heap.size, i, none⟩ = false := fun i => World.frozen?_alloc_new _ _ _ _
  refine wpList_store44 hgd x y ho w0.heap.size 0 hx p hy noPg hz hf ?_
  refine h _ (hz.set hf p) (fun i => by rw [World.frozen?_setCells]; exact hf i) (below_setCells (Nat.le_refl _) _ _ _ ((Below.refl _ _).alloc (Nat.le_refl _) _)) ?_
  rw [heap_size_setCells]; simp
end

theorem PgAt.setNu {W : World} {b : Nat} {p : Pg} (h : PgAt W b 0 p) (N : Nat) : PgAt (W.setCell ⟨b, 1, none⟩ (.int .u32 N)) b 0 { p with nu := N } := by
  have e : ∀ i, i ≠ 1 → (W.setCell ⟨b, 1, none⟩ (.int .u32 N)).cell? ⟨b, i, none⟩ = W.cell? ⟨b, i, none⟩ := fun i hi => World.cell?_setCell_other _ _ _ _ (fun e => hi (by injection e with _ e2; exact e2.symm))
  exact ⟨(e _ (by decide)).trans h.c0, World.cell?_setCell_same' _ _ _ (by rw [show (⟨b, 1, none⟩ : Addr) = ⟨b, 0 + 1, none⟩ from rfl, h.c1]; rfl), (e _ (by decide)).trans h.c2, (e _ (by decide)).trans h.c3, (e _ (by decide)).trans h.c4, (e _ (by decide)).trans h.c5⟩

/-- A piece that was given a number comes to the joiner. -/
theorem take_nu_any (ep : Nat) (s : ByteArray) (k g N : Nat) (p : Pg) (w W : World) (hk : k < cnt s.size) (hs : s.size ≤ 4096) (hp : p = { piece ep s.data.toList k with nu := N }) (hj : JS w W g (behind ep s.data.toList k)) :
    Calls Try.prog 45 #[.pointer (some ⟨g, 0, none⟩), .agg #[.int .u32 p.ep, .int .u32 p.nu, .int .i64 p.ki, .bool p.fi, .bool p.la, .string ⟨p.da.toArray⟩]] W
      fun r w' => r = .returned (.tuple #[.string (if k + 1 = cnt s.size then s else ⟨#[]⟩), .bool (k + 1 == cnt s.size), .int .i64 0]) ∧ JS w w' g (behind ep s.data.toList (k + 1)) ∧ Tk W w' g 0 := by
  have hl : s.data.toList.length = s.size := by simp
  have h2 : p.da.length ≤ 49 := by subst hp; show (chunk _ _).length ≤ 49; rw [chunk_length]; exact plen_le _ _
  refine (take_any _ p g 0 W hj.at' hj.lt (behind_len _ _ _ (by omega)) (by unfold maxLen; omega) hj.frozen).mono ?_
  rintro e w' ⟨rfl, h3, h4⟩
  subst hp
  have e9 : (behind ep s.data.toList k).take { piece ep s.data.toList k with nu := N } = (behind ep s.data.toList k).take (piece ep s.data.toList k) := rfl
  rw [e9, take_piece ep s.data.toList k (by rw [hl]; exact hk) (by omega)] at h3 ⊢
  refine ⟨?_, hj.took h3 h4, h4⟩
  dsimp only
  rw [hl]
  by_cases e : k + 1 = cnt s.size
  · rw [if_pos e, if_pos e]
  · rw [if_neg e, if_neg e]

theorem entR_kind {k : Int} {L : List UInt8} (h : entR k L = true) : ∃ kn : Nat, k = (kn : Int) ∧ kn < 256 := by
  unfold entR at h
  by_cases h1 : k = 1
  · exact ⟨1, h1, by decide⟩
  rw [if_neg h1] at h
  by_cases h2 : k = 2
  · exact ⟨2, h2, by decide⟩
  rw [if_neg h2] at h
  by_cases h3 : k = 3
  · exact ⟨3, h3, by decide⟩
  rw [if_neg h3] at h
  cases h

theorem wpList_new50 {ops : Array Oper} {rest : List Oper} {op : Oper} {a : Act} {w : World} {Q : Exit → Act → World → Prop} (hgd : op.guard = none) (x y : Operand) (ho : op.op = .store 50 x y) (w0 : World) (c : Array Value) (hw : w = w0.alloc (.cells c 50)) (hc : c.size = 3) (hx : a.eval x = .pointer (some ⟨w0.heap.size, 0, none⟩))
    (vs : List Value) (hy : a.eval y = .agg vs.toArray) (hv : vs.length = 3) (h1 : ∀ v ∈ vs, v.oneCell' = true)
    (h : ∀ W', W'.rangeAt w0.heap.size 0 vs → Below w0.heap.size w0 W' → wpList Try.prog ops Q rest (a.put op.dst undef) W') : wpList Try.prog ops Q (op :: rest) a w := by
  subst hw
  have ht : (w0.alloc (.cells c 50)).there w0.heap.size 0 3 := fun j hj => by
    refine ⟨?_, by rw [Nat.zero_add]; exact World.frozen?_alloc_new _ _ _ _⟩
    rw [Nat.zero_add, World.cell?_alloc_new, Array.getElem?_eq_getElem (by omega)]
    rfl
  refine wpList_store_mid hgd 50 x y ho w0.heap.size 0 vs.toArray hx hy (by rw [show vs.toArray.size = 3 from hv]; exact ht) (by rw [info50, show vs.toArray.size = 3 from hv]) (all_oneCell_toArray h1) ?_
  exact h _ (World.rangeAt_setCells_same _ w0.heap.size 0 vs (hv ▸ ht)) (below_setCells (Nat.le_refl _) _ _ _ ((Below.refl _ _).alloc (Nat.le_refl _) _))

theorem EB.of_range {w X : World} {b : Nat} {k : Int} {st : Nat} {L : List UInt8} (h : X.rangeAt b 0 [.int .i64 k, .int .u32 st, .string ⟨L.toArray⟩]) (hb : Below w.heap.size w X) : EB w b k st L X :=
  ⟨h 0 _ rfl, h 1 _ rfl, h 2 _ rfl, hb⟩

set_option maxRecDepth 100000 in
set_option maxHeartbeats 8000000 in
theorem wholePages_walk (kv : Int) (st : Nat) (hst : st < 4294967296) (L : List UInt8) (hL : L.length ≤ maxLen) (ep nu : Nat) (hep : ep < 4294967296) (hnu : nu < 4294967296) (w : World) :
    Calls Try.prog 9 #[.agg #[.int .i64 kv, .int .u32 st, .string ⟨L.toArray⟩], .int .u32 ep, .int .u32 nu] w fun r w' => r = .returned (.bool true) ∧ Below w.heap.size w w' := by
  have hsz : (⟨L.toArray⟩ : ByteArray).size = L.length := rfl
  have HML := Lib.hid hL
  unfold maxLen at hL
  have G := Lib.hid goes_any
  have O := Lib.hid (fun X => of_any kv st ⟨L.toArray⟩ X)
  go_enter Try.func9, Try.ntmps9
  go_upto_region 1 with fail
  refine wp_gate (fun X => EB w w.heap.size kv st L X) (EB.start w kv st L 47) ?_
  intro w0 hX
  have HX := Lib.hid hX
  clear hX
  go_wp2_with fail
  refine (G.out _).mono ?_
  rintro r w1 ⟨rfl, hb⟩
  have HX := Lib.hid (HX.out.step hb)
  clear hb
  have c0 := HX.out.c0
  have c1 := HX.out.c1
  have c2 := HX.out.c2
  by_cases h500 : 500 < L.length
  · have hg : (500 : Int) < ((⟨L.toArray⟩ : ByteArray).size : Int) := by rw [hsz]; omega
    go_wp2_with fail
    refine (G.out _).mono ?_
    rintro r w2 ⟨rfl, hb⟩
    have HX := Lib.hid (HX.out.step hb)
    clear hb c0 c1 c2
    go_wp2_with fail
    go_ret
    exact ⟨rfl, HX.out.below⟩
  have hg : ((⟨L.toArray⟩ : ByteArray).size : Int) ≤ 500 := by rw [hsz]; omega
  go_wp2_with fail
  refine (O.out _).mono ?_
  rintro r w2 ⟨rfl, hb⟩
  have HX := Lib.hid (HX.out.step hb)
  clear hb c0 c1 c2 O G
  rcases Bool.eq_false_or_eq_true (entR kv L) with hr | hr
  · obtain ⟨kn, rfl, hkn⟩ := entR_kind hr
    have LY := Lib.hid (fun X => elay_yes kn hkn st hst L (by omega) hr X)
    have RD := Lib.hid (fun X => eread kn hkn st hst L (by omega) hr X)
    have hs5 : (⟨(layE kn st L).toArray⟩ : ByteArray).size = 5 + L.length := by
      show (layE kn st L).length = _
      have : (four st).length = 4 := rfl
      simp only [layE, List.length_cons, List.length_append]
      omega
    generalize (⟨(layE kn st L).toArray⟩ : ByteArray) = s at *
    go_wp2_with fail
    refine (LY.out _).mono ?_
    rintro r w3 ⟨rfl, hb⟩
    have HX := Lib.hid (HX.out.step hb)
    clear hb LY
    have CU := Lib.hid (cut_yes ep s (by omega) (by omega) w3)
    go_wp2_with fail
    refine CU.out.mono ?_
    rintro r w4 ⟨v, rfl, hr1, hb⟩
    have HX := Lib.hid (HX.out.step hb)
    have hcl : cnt s.size ≤ 84 := by unfold cnt; omega
    have hcp : 0 < cnt s.size := by unfold cnt; omega
    have HPL := Lib.hid (show (pieces ep s.data.toList).length = cnt s.size by rw [pieces_length]; simp)
    have HSZ := Lib.hid (show s.size ≤ 4096 by omega)
    obtain ⟨g1, cap1, rfl, hg1, hl1⟩ := hr1.form hcp
    have HP := Lib.hid (show ∀ k (hk : k < (pieces ep s.data.toList).length), PgAt w4 g1 (k * 6) (pieces ep s.data.toList)[k] from fun k hk => own_pg hr1 k hk)
    have HL1 := Lib.hid hl1
    clear hr1 hb hg1 hl1 CU hs5
    have hJ0 := JS.boxed w4 w4 (Below.refl _ _)
    go_wp2_with fail
    revert hJ0
    generalize w4.alloc (Obj.cells #[.bool false, .int .u32 0, .string ⟨#[]⟩] 54) = w5
    obtain ⟨g, hg⟩ : ∃ g, w4.heap.size = g := ⟨_, rfl⟩
    rw [hg]
    intro hJ0
    have HG := Lib.hid hg
    clear hg
    go_loopw [12, 13, 14, 15, 16, 17, 18, 19, 20, 21, 22, 48, 49, 50, 51, 52, 53, 54, 55, 56, 57, 58, 59, 60, 61, 62, 63, 64, 65, 66, 67, 68, 69, 70, 71, 72, 73, 74, 75, 76, 77, 78, 79, 80, 81, 82, 83, 84, 85, 86, 87, 88, 89, 90, 91, 92, 93, 94, 95, 96, 97, 98, 99, 100, 101, 102, 103, 104, 105, 106, 107, 108, 109, 110, 111, 112, 113, 114, 115, 116, 117, 118, 119, 120, 121] (fun a12 _ _ _ _ _ _ _ _ _ _ _ _ _ _ _ _ _ _ _ _ _ _ _ _ _ _ _ _ _ _ _ _ _ _ _ _ _ _ _ _ _ _ _ _ _ _ _ _ _ _ _ _ _ _ _ _ _ _ _ _ _ _ _ _ _ _ _ _ _ _ _ _ _ _ _ _ _ _ _ _ _ _ _ _ wr => ∃ k : Nat, k < cnt s.size ∧ a12 = .int .i64 k ∧ JS w4 wr g (behind ep s.data.toList k)) (fun a12 _ _ _ _ _ _ _ _ _ _ _ _ _ _ _ _ _ _ _ _ _ _ _ _ _ _ _ _ _ _ _ _ _ _ _ _ _ _ _ _ _ _ _ _ _ _ _ _ _ _ _ _ _ _ _ _ _ _ _ _ _ _ _ _ _ _ _ _ _ _ _ _ _ _ _ _ _ _ _ _ _ _ _ _ _ => cnt s.size - (intOf a12).toNat)
    case atStart => exact ⟨0, hcp, rfl, by rw [show behind ep s.data.toList 0 = Jn.zero by simp [behind]]; exact hJ0⟩
    case round =>
      clear hJ0
      obtain ⟨k, hk, rfl, hJ⟩ := hrel
      have HJ := Lib.hid hJ
      obtain ⟨p, hp, hpg⟩ : ∃ p, p = piece ep s.data.toList k ∧ PgAt w4 g1 (k * 6) p := ⟨_, rfl, by
        have := HP.out k (by rw [HPL.out]; exact hk)
        rwa [pieces_get] at this⟩
      obtain ⟨N, hN, hNb⟩ : ∃ N : Nat, ((nu : Int) + (k : Int)) % 4294967296 = (N : Int) ∧ N < 4294967296 := ⟨(nu + k) % 4294967296, by omega, by omega⟩
      have HPP := Lib.hid hp
      obtain ⟨q0, q1, q2, q3, q4, q5⟩ := hpg.inJS hJ HL1.out
      clear hJ hp hpg
      go_upto_region 12 with (refine wpList_new44f (by rfl) (.tmp 13) (.tmp 57) (by rfl) _ _ rfl (by rfl) (by rfl) p (by rfl) ?_; intro w6 hpg hfz hb6 hlt6; have HPB := Lib.hid (And.intro hpg (And.intro hfz (And.intro hb6 hlt6))); clear hpg hfz hb6 hlt6)
      clear q0 q1 q2 q3 q4 q5
      have d1 := HPB.out.1.c1
      have f1 := HPB.out.2.1 1
      rw [Nat.zero_add] at d1
      go_upto_region 13 with fail
      change Code.wp _ _ _ _ (w6.setCell ⟨wr.heap.size, 1, none⟩ (.int .u32 (N : Int)))
      have HPN := Lib.hid (HPB.out.1.setNu N)
      have HB7 : Hid (Below wr.heap.size wr (w6.setCell ⟨wr.heap.size, 1, none⟩ (.int .u32 (N : Int)))) := Lib.hid (HPB.out.2.2.1.setCell (Nat.le_refl _) _)
      have HLT1 : Hid (wr.heap.size < (w6.setCell ⟨wr.heap.size, 1, none⟩ (.int .u32 (N : Int))).heap.size) := Lib.hid (by simpa [World.setCell] using HPB.out.2.2.2)
      have HGP := Lib.hid HJ.out.lt
      have HJ := Lib.hid (HJ.out.step HB7.out)
      clear d1 f1 HPB HB7 hN
      generalize w6.setCell ⟨wr.heap.size, 1, none⟩ (.int .u32 (N : Int)) = X1 at *
      generalize wr.heap.size = pb at *
      obtain ⟨p', hp'⟩ : ∃ p', { p with nu := N } = p' := ⟨_, rfl⟩
      rw [hp'] at HPN
      have hp2 : p' = { piece ep s.data.toList k with nu := N } := by rw [← hp', HPP.out]
      have hrt : p'.right = true := by rw [hp2]; exact (show Pg.right { piece ep s.data.toList k with nu := N } = (piece ep s.data.toList k).right from rfl).trans (piece_right _ _ _ (by simpa using hk))
      have hpe : p'.ep < 4294967296 := by rw [hp2]; exact hep
      have hpn : p'.nu < 4294967296 := by rw [hp2]; exact hNb
      have LYP := Lib.hid (fun X => lay_yes p' hrt hpe hpn X)
      have hll : (layB p').length = 64 := layB_length p' (right_facts p' hrt).2.2
      have RDP := Lib.hid (fun X => read_val (layB p') hll p' 0 (read_lay p' hrt hpe hpn) X)
      have HLL := Lib.hid hll
      have TK := Lib.hid (fun X (h : JS w4 X g (behind ep s.data.toList k)) => take_nu_any ep s k g N p' w4 X hk HSZ.out hp2 h)
      have hneq : ∀ W : World, (binOp .neq 44 (.agg #[.int .u32 p'.ep, .int .u32 p'.nu, .int .i64 p'.ki, .bool p'.fi, .bool p'.la, .string ⟨p'.da.toArray⟩]) (.agg #[.int .u32 p'.ep, .int .u32 p'.nu, .int .i64 p'.ki, .bool p'.fi, .bool p'.la, .string ⟨p'.da.toArray⟩])).run Try.prog W = .ok (.bool false) W := by
        intro W
        simp [go_sem]
      have HNQ := Lib.hid hneq
      clear hp' hp2 hrt hpe hpn hll hneq HPP
      generalize layB p' = lb at *
      obtain ⟨q0, q1, q2, q3, q4, q5⟩ := HPN.out
      go_wp2_with fail
      refine (LYP.out _).mono ?_
      rintro r w7 ⟨rfl, hb⟩
      have HJ := Lib.hid (HJ.out.step hb)
      have HPN := Lib.hid (HPN.out.below hb HLT1.out)
      have HLT2 := Lib.hid (Nat.lt_of_lt_of_le HLT1.out hb.size)
      clear hb q0 q1 q2 q3 q4 q5 LYP
      go_upto_region 14 with (refine wpList_new56 (by rfl) _ _ (by rfl) _ _ rfl (by rfl) (by rfl) lb (by rfl) HLL.out ?_; intro w8 hbuf hw8 hlt8; have HBF := Lib.hid (And.intro hbuf hw8); clear hbuf hw8 hlt8)
      have HJ := Lib.hid (HJ.out.step HBF.out.2)
      have HPN := Lib.hid (HPN.out.below HBF.out.2 HLT2.out)
      have HLT3 := Lib.hid (Nat.lt_of_lt_of_le HLT2.out HBF.out.2.size)
      have HBF := Lib.hid HBF.out.1
      generalize w7.heap.size = gb at *
      go_wp2_with (refine wpList_load56 (by rfl) (.tmp 14) (by rfl) gb (by rfl) lb ?_ ?_; exact HBF.out)
      refine (RDP.out _).mono ?_
      rintro r w9 ⟨rfl, hb⟩
      have HJ := Lib.hid (HJ.out.step hb)
      have HPN := Lib.hid (HPN.out.below hb HLT3.out)
      have HLT4 := Lib.hid (Nat.lt_of_lt_of_le HLT3.out hb.size)
      clear hb RDP HBF
      go_upto_region 15 with (refine wpList_new44f (by rfl) (.tmp 16) (.tmp 71) (by rfl) _ _ rfl (by rfl) (by rfl) p' (by rfl) ?_; intro w10 hpg hfz hb6 hlt6; have HQB := Lib.hid (And.intro hpg (And.intro hb6 hlt6)); clear hpg hfz hb6 hlt6)
      have HGQ := Lib.hid HJ.out.lt
      have HJ := Lib.hid (HJ.out.step HQB.out.2.1)
      have HPN := Lib.hid (HPN.out.below HQB.out.2.1 HLT4.out)
      have HLT5 := Lib.hid (And.intro (Nat.lt_of_lt_of_le HLT4.out HQB.out.2.1.size) HQB.out.2.2)
      have HQN := Lib.hid HQB.out.1
      clear HQB
      generalize w9.heap.size = qb at *
      obtain ⟨q0, q1, q2, q3, q4, q5⟩ := HQN.out
      go_wp2_with fail
      refine (TK.out _ HJ.out).mono ?_
      rintro r w11 ⟨rfl, hJ2, ht⟩
      have HJ := Lib.hid hJ2
      have HPN := Lib.hid (HPN.out.took ht HLT5.out.1 (Nat.ne_of_gt HGP.out))
      have HQN := Lib.hid (HQN.out.took ht HLT5.out.2 (Nat.ne_of_gt HGQ.out))
      clear hJ2 ht q0 q1 q2 q3 q4 q5 TK HLT1 HLT2 HLT3 HLT4 HLT5
      have hneq := HNQ.out
      obtain ⟨q0, q1, q2, q3, q4, q5⟩ := HQN.out
      obtain ⟨r0, r1, r2, r3, r4, r5⟩ := HPN.out
      by_cases hla : k + 1 = cnt s.size
      · have hkl : ((k : Int) == (cnt s.size : Int) - 1) = true := by rw [beq_iff_eq]; omega
        rw [if_pos hla, show (k + 1 == cnt s.size) = true by simpa using hla]
        go_wp2_with fail
        clear q0 q1 q2 q3 q4 q5 r0 r1 r2 r3 r4 r5 hneq
        refine (RD.out _).mono ?_
        rintro r w12 ⟨rfl, hb⟩
        have HXE := Lib.hid (HX.out.step (HJ.out.step hb).below)
        clear hb RD
        go_upto_region 20 with (refine wpList_new50 (by rfl) (.tmp 21) (.tmp 108) (by rfl) _ _ rfl (by rfl) (by rfl) [.int .i64 (kn : Int), .int .u32 st, .string ⟨L.toArray⟩] (by rfl) rfl (by simp [Value.oneCell']) ?_; intro w13 hrg hb13; have HRG := Lib.hid (And.intro hrg hb13); clear hrg hb13)
        have HXE := Lib.hid (HXE.out.step HRG.out.2)
        have HXB := Lib.hid (EB.of_range HRG.out.1 HXE.out.below)
        clear HRG
        generalize w12.heap.size = xb at *
        have HJJ : Hid (EB w w.heap.size kn st L w13.drew ∧ EB w xb kn st L w13.drew) := Lib.hid ⟨HXE.out.step (Below.refl _ _).drew, HXB.out.step (Below.refl _ _).drew⟩
        haveI : Nonempty (WS (fun X => EB w w.heap.size kn st L X ∧ EB w xb kn st L X)) := ⟨⟨w13.drew, HJJ.out⟩⟩
        have e0 : ∀ y : WS (fun X => EB w w.heap.size kn st L X ∧ EB w xb kn st L X), y.w.cell? ⟨w.heap.size, 0, none⟩ = some (.int .i64 (kn : Int)) := fun y => y.ok.1.c0
        have e1 : ∀ y : WS (fun X => EB w w.heap.size kn st L X ∧ EB w xb kn st L X), y.w.cell? ⟨w.heap.size, 1, none⟩ = some (.int .u32 st) := fun y => y.ok.1.c1
        have e2 : ∀ y : WS (fun X => EB w w.heap.size kn st L X ∧ EB w xb kn st L X), y.w.cell? ⟨w.heap.size, 2, none⟩ = some (.string ⟨L.toArray⟩) := fun y => y.ok.1.c2
        have x0 : ∀ y : WS (fun X => EB w w.heap.size kn st L X ∧ EB w xb kn st L X), y.w.cell? ⟨xb, 0, none⟩ = some (.int .i64 (kn : Int)) := fun y => y.ok.2.c0
        have x1 : ∀ y : WS (fun X => EB w w.heap.size kn st L X ∧ EB w xb kn st L X), y.w.cell? ⟨xb, 1, none⟩ = some (.int .u32 st) := fun y => y.ok.2.c1
        have x2 : ∀ y : WS (fun X => EB w w.heap.size kn st L X ∧ EB w xb kn st L X), y.w.cell? ⟨xb, 2, none⟩ = some (.string ⟨L.toArray⟩) := fun y => y.ok.2.c2
        have heq : ∀ W : World, (binOp .eql 47 (.agg #[.int .i64 (kn : Int), .int .u32 st, .string ⟨L.toArray⟩]) (.agg #[.int .i64 (kn : Int), .int .u32 st, .string ⟨L.toArray⟩])).run Try.prog W = .ok (.bool true) W := by
          intro W
          simp [go_sem]
        have PLN := Lib.hid (fun X => eplain_any kn st ⟨L.toArray⟩ X)
        refine wp_region_ws (fun X => EB w w.heap.size kn st L X ∧ EB w xb kn st L X) (by kernel_rfl) (by kernel_rfl) HJJ.out ?_
        repeat (go_big_quiet_step ((go_at_call 47; exact ws_call (fun W W' h hb => ⟨h.1.step hb, h.2.step hb⟩) (PLN.out _))))
        refine wpQuiet_nil ?_
        rintro _ ⟨⟨W, hW⟩, rfl⟩
        have HW := Lib.hid hW
        clear hW e0 e1 e2 x0 x1 x2 heq this
        go_wp2_with fail
        go_ret
        exact ⟨rfl, HW.out.1.below⟩
      · have hkl : ((k : Int) == (cnt s.size : Int) - 1) = false := by rw [beq_eq_false_iff_ne]; omega
        rw [if_neg hla, show (k + 1 == cnt s.size) = false by simpa using hla]
        go_wp2_with fail
        exact ⟨⟨k + 1, by omega, by simp, HJ.out⟩, by simp only [intOf]; omega⟩
  · have LN := Lib.hid (fun X => elay_no kv st L HML.out hr X)
    go_wp2_with fail
    refine (LN.out _).mono ?_
    rintro r w3 ⟨rfl, hb⟩
    have HX := Lib.hid (HX.out.step hb)
    clear hb
    go_wp2_with fail
    go_ret
    exact ⟨rfl, HX.out.below⟩
end Go.Proofs.Ytmaaljfcnnlnpaa
