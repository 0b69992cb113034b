/-
  The walk of the law DiskFused.
-/
import Derived.Test.YtmaaljfcnnlnpaaDiskNil
import Derived.Test.YtmaaljfcnnlnpaaDiskLaw2
namespace Go.Proofs.Ytmaaljfcnnlnpaa
open Go.RowKit

theorem may8 (S : Int → List UInt8) (L : List Wr) (f : Int) (r : Int → Int) (i : Int) (h : 0 ≤ i ∧ i < 8) : Dk.may ⟨8, S, L, false, f, r⟩ i = 0 := by
  show (if false = true then 7 else if i < 0 ∨ 8 ≤ i then 1 else 0) = 0
  rw [if_neg (by decide), if_neg (by omega)]

/-- A disk of eight sectors whose fuse burns. -/
def DR (w W : World) (d m1 m2 : Nat) (S : Int → List UInt8) (L : List Wr) (f : Int) (l : List Nat) : Prop := ∃ r, DS w W d m1 m2 ⟨8, S, L, false, f, r⟩ l

section
variable {w W : World} {d m1 m2 : Nat} {S : Int → List UInt8} {L : List Wr} {f : Int} {l : List Nat}
theorem DR.below (h : DR w W d m1 m2 S L f l) : Below w.heap.size w W := h.elim fun _ h => h.below
theorem DR.step {W' : World} (h : DR w W d m1 m2 S L f l) (hb : Below W.heap.size W W') : DR w W' d m1 m2 S L f l := h.elim fun r h => ⟨r, (h.step hb).1⟩
theorem DR.made {W' : World} (h : DR w W d m1 m2 S L f l) (hb : Below W.heap.size W W') (hlt : W.heap.size < W'.heap.size) : DR w W' d m1 m2 S L f (W.heap.size :: l) := h.elim fun r h => ⟨r, h.made hb hlt⟩
theorem DR.less {l' : List Nat} (h : DR w W d m1 m2 S L f l) (hl : ∀ k ∈ l', k ∈ l) : DR w W d m1 m2 S L f l' := h.elim fun r h => ⟨r, h.less hl⟩
theorem DR.lt (h : DR w W d m1 m2 S L f l) {g : Nat} (hg : g ∈ l) : g < W.heap.size := h.elim fun _ h => h.dk.elim fun _ h => (h.2 g hg).1
theorem DR.buf {W' : World} (h : DR w W' d m1 m2 S L f l) (hs : Stays W W' l) {g : Nat} (hg : g ∈ l) {bs : List UInt8} (hb : Buf W g bs) : Buf W' g bs := h.elim fun _ h => h.buf hs hg hb
theorem DR.seenLen (h : DR w W d m1 m2 S L f l) (i : Int) : ((lastAt L i).getD (S i)).length = 64 := h.elim fun _ h => h.dk.elim fun _ h => h.1.ok.seen i

theorem DR.cast {f' : Int} (h : DR w W d m1 m2 S L f l) (e : f = f') : DR w W d m1 m2 S L f' l := e ▸ h

theorem dr_read (h : DR w W d m1 m2 S L f l) (i : Int) (hi : 0 ≤ i ∧ i < 8) (hlen : L.length ≤ 100000) :
    Calls Try.prog 57 #[.pointer (some ⟨d, 0, none⟩), .int .i64 i] W fun r w' => r = .returned (.tuple #[.agg (((lastAt L i).getD (S i)).map bv).toArray, .int .i64 0]) ∧ DR w w' d m1 m2 S L f l ∧ Stays W w' l := by
  obtain ⟨r, h⟩ := h
  refine (ds_read h i (may8 _ _ _ _ _ hi) hlen).mono ?_
  rintro r w' ⟨rfl, hd, hs⟩
  exact ⟨rfl, ⟨_, hd⟩, hs⟩
theorem dr_write (h : DR w W d m1 m2 S L f l) (hf : 0 < f) (hf2 : f ≤ 100) (i : Int) (hi : 0 ≤ i ∧ i < 8) (p : List UInt8) (hp : p.length = 64) (hlen : L.length ≤ 100000) :
    Calls Try.prog 54 #[.pointer (some ⟨d, 0, none⟩), .int .i64 i, .agg (p.map bv).toArray] W fun r w' => r = .returned (.int .i64 0) ∧ DR w w' d m1 m2 S (L ++ [(i, p)]) (f - 1) l ∧ Stays W w' l := by
  obtain ⟨r, h⟩ := h
  refine (ds_write h i p hp (may8 _ _ _ _ _ hi) (by show f ≠ 0; omega) (by show -1 ≤ f ∧ f ≤ 9223372036854775807; omega) hlen).mono ?_
  rintro r w' ⟨rfl, hd, hs⟩
  refine ⟨rfl, ?_, hs⟩
  have e : max (f - 1) (-1) = f - 1 := by omega
  rw [← e]
  exact ⟨_, hd⟩
theorem dr_write0 (h : DR w W d m1 m2 S L 0 l) (i : Int) (hi : 0 ≤ i ∧ i < 8) (p : List UInt8) :
    Calls Try.prog 54 #[.pointer (some ⟨d, 0, none⟩), .int .i64 i, .agg (p.map bv).toArray] W fun r w' => r = .returned (.int .i64 6) ∧ DR w w' d m1 m2 S L 0 l ∧ Stays W w' l := by
  obtain ⟨r, h⟩ := h
  refine (ds_write_fused h i p (may8 _ _ _ _ _ hi) rfl).mono ?_
  rintro r w' ⟨rfl, hd, hs⟩
  exact ⟨rfl, ⟨_, hd⟩, hs⟩
theorem dr_sync (h : DR w W d m1 m2 S L f l) (hf : 0 < f) (hf2 : f ≤ 100) (hlen : L.length ≤ 100000) :
    Calls Try.prog 64 #[.pointer (some ⟨d, 0, none⟩)] W fun r w' => r = .returned (.int .i64 0) ∧ DR w w' d m1 m2 (stl (fun _ => true) L S) [] (f - 1) l ∧ Stays W w' l := by
  obtain ⟨r, h⟩ := h
  refine (ds_sync h (may8 _ _ _ _ _ (by decide)) (by show f ≠ 0; omega) (by show -1 ≤ f ∧ f ≤ 9223372036854775807; omega) hlen).mono ?_
  rintro r w' ⟨rfl, hd, hs⟩
  refine ⟨rfl, ?_, hs⟩
  have e : max (f - 1) (-1) = f - 1 := by omega
  rw [← e]
  exact ⟨_, hd⟩
theorem dr_sync0 (h : DR w W d m1 m2 S L 0 l) :
    Calls Try.prog 64 #[.pointer (some ⟨d, 0, none⟩)] W fun r w' => r = .returned (.int .i64 6) ∧ DR w w' d m1 m2 S L 0 l ∧ Stays W w' l := by
  obtain ⟨r, h⟩ := h
  refine (ds_sync_fused h (may8 _ _ _ _ _ (by decide)) rfl).mono ?_
  rintro r w' ⟨rfl, hd, hs⟩
  exact ⟨rfl, ⟨_, hd⟩, hs⟩
theorem dr_sync1 (h : DR w W d m1 m2 S L (-1) l) (hlen : L.length ≤ 100000) :
    Calls Try.prog 64 #[.pointer (some ⟨d, 0, none⟩)] W fun r w' => r = .returned (.int .i64 0) ∧ Below w.heap.size w w' := by
  obtain ⟨r, h⟩ := h
  refine (ds_sync h (may8 _ _ _ _ _ (by decide)) (by show (-1 : Int) ≠ 0; decide) (by show -1 ≤ (-1 : Int) ∧ (-1 : Int) ≤ 9223372036854775807; decide) hlen).mono ?_
  rintro r w' ⟨rfl, hd, _⟩
  exact ⟨rfl, hd.below⟩
theorem dr_loose (h : DR w W d m1 m2 S L f l) : Calls Try.prog 58 #[.pointer (some ⟨d, 0, none⟩)] W fun r w' => r = .returned (.int .i64 (L.length : Nat)) ∧ W = w' := h.elim fun _ h => ds_loose h
theorem dr_fuse (h : DR w W d m1 m2 S L f l) (n m : Int) (hm : max n (-1) = m) :
    Calls Try.prog 69 #[.pointer (some ⟨d, 0, none⟩), .int .i64 n] W fun r w' => r = .returned (.tuple #[]) ∧ DR w w' d m1 m2 S L m l := by
  obtain ⟨r, h⟩ := h
  refine (ds_fuse h n).mono ?_
  rintro r w' ⟨rfl, hd, _⟩
  subst hm
  exact ⟨rfl, ⟨_, hd⟩⟩
theorem dr_new (hb : Below w.heap.size w W) : Calls Try.prog 53 #[.int .i64 8] W fun r w' => ∃ d m1 m2, r = .returned (.tuple #[.pointer (some ⟨d, 0, none⟩), .int .i64 0]) ∧ DR w w' d m1 m2 (fun _ => zero64) [] (-1) [] := by
  refine (ds_new 8 (by decide) (by decide) hb).mono ?_
  rintro r w' ⟨d, m1, m2, rfl, h⟩
  exact ⟨d, m1, m2, rfl, _, h⟩
end

/-- The disk behind so many rounds. -/
def DQ (w W : World) (d m1 m2 : Nat) (f b : Nat) : Prop := ∃ S L, L.length ≤ b ∧ DR w W d m1 m2 S L (f : Int) []

theorem act_do {w : World} {v : Value} {n : Nat} {l : Nat → Ac} (h : AcsAt w v n l) (k : Nat) (hk : k < n) : (l k).act < 256 ∧ ∀ b o cap, v = .slice (some ⟨b, o, none⟩) n cap → ∀ W, Below w.heap.size w W → W.cell? ⟨b, o + k * 67, none⟩ = some (.int .u8 (l k).act) := by
  obtain ⟨a, cap, rfl, _, h0 | ⟨b, o, rfl, hc⟩⟩ := h
  · omega
  · refine ⟨(hc k hk).act, fun b' o' cap' e W hW => ?_⟩
    obtain ⟨rfl, rfl⟩ : b = b' ∧ o = o' := by
      injection e with e1 _ _
      injection e1 with e1
      injection e1 with e1 e2
      exact ⟨e1, e2⟩
    exact ((hc k hk).below hW).c0

set_option maxRecDepth 100000 in
set_option maxHeartbeats 8000000 in
theorem diskFused_walk (k : Nat) (hk : k < 256) (v1 : Value) (w : World) (h1 : AcsArg w v1) :
    Calls Try.prog 23 #[.int .u8 k, v1] w fun e w' => e = .returned (.bool true) ∧ Below w.heap.size w w' := by
  obtain ⟨n, l, ha⟩ := h1
  have A := Lib.hid (fun W => awake16 W)
  have F := Lib.hid (fun W (hb : Below w.heap.size w W) => few16 (ha.below hb))
  have N := Lib.hid (fun W (hb : Below w.heap.size w W) => dr_new hb)
  have HA := Lib.hid ha
  obtain ⟨a0, cap0, rfl, hn, -⟩ := ha
  unfold maxLen at hn
  go_enter Try.func23, Try.ntmps23
  go_wp2_with fail
  refine (A.out _).mono ?_
  rintro e w1 ⟨rfl, hb1⟩
  go_wp2_with fail
  refine (F.out _ hb1).mono ?_
  rintro e w2 ⟨⟨b, rfl, hb60⟩, rfl⟩
  have HB := Lib.hid hb1
  clear hb1
  rcases Bool.eq_false_or_eq_true b with rfl | rfl
  · have hn60 := hb60 rfl
    clear hb60 hn
    go_wp2_with fail
    refine (N.out _ HB.out).mono ?_
    rintro e w3 ⟨d, m1, m2, rfl, hS⟩
    have HS := Lib.hid hS
    clear hS HB N
    obtain ⟨k0, hk0, hk20⟩ : ∃ k0 : Nat, (k : Int) % 20 = k0 ∧ k0 < 20 := ⟨k % 20, by omega, by omega⟩
    go_wp2_with fail
    rw [hk0]
    refine (dr_fuse HS.out k0 k0 (by omega)).mono ?_
    rintro e w4 ⟨rfl, hS⟩
    have HQ0 := Lib.hid (show DQ w w4 d m1 m2 (k0 - 0) 0 from ⟨_, _, Nat.le_refl _, hS⟩)
    clear hS HS hk0
    go_wp2_with fail
    go_loopw [4, 8, 9, 10, 11, 12, 13, 14, 36, 37, 38, 39, 40, 41, 42, 43, 44, 45, 46, 47, 48, 49, 50, 51, 52, 53, 54, 55, 56, 57, 58, 59, 60, 61, 62, 63, 64, 65, 66, 67, 68, 69, 70, 71, 72, 73, 74, 75, 76, 77, 78, 79, 80, 81, 82, 83, 84, 85, 86, 87, 88, 89, 90, 91, 92, 93, 94, 95, 96, 97, 98, 99, 100, 101, 102, 103, 104, 105, 106, 107, 108, 109, 110, 111, 112] (fun _ a8 _ _ _ _ _ _ _ _ _ _ _ _ _ _ _ _ _ _ _ _ _ _ _ _ _ _ _ _ _ _ _ _ _ _ _ _ _ _ _ _ _ _ _ _ _ _ _ _ _ _ _ _ _ _ _ _ _ _ _ _ _ _ _ _ _ _ _ _ _ _ _ _ _ _ _ _ _ _ _ _ _ _ _ wr => ∃ j : Nat, j ≤ n ∧ a8 = .int .i64 j ∧ DQ w wr d m1 m2 (k0 - j) j) (fun _ a8 _ _ _ _ _ _ _ _ _ _ _ _ _ _ _ _ _ _ _ _ _ _ _ _ _ _ _ _ _ _ _ _ _ _ _ _ _ _ _ _ _ _ _ _ _ _ _ _ _ _ _ _ _ _ _ _ _ _ _ _ _ _ _ _ _ _ _ _ _ _ _ _ _ _ _ _ _ _ _ _ _ _ _ _ => n - (intOf a8).toNat)
    case atStart => exact ⟨0, Nat.zero_le _, rfl, HQ0.out⟩
    case round =>
      clear HQ0
      obtain ⟨j, hj, rfl, S, L, hL, hS⟩ := hrel
      have HS := Lib.hid hS
      clear hS
      by_cases hlt : j < n
      · obtain ⟨b, o, cap0', hv, hc1, hcp, hpl⟩ := act_in HA.out j hlt
        obtain ⟨hact, hdo⟩ := act_do HA.out j hlt
        obtain ⟨rfl, rfl⟩ : a0 = some ⟨b, o, none⟩ ∧ cap0 = cap0' := by injection hv with e1 _ e3; exact ⟨e1, e3⟩
        have HDO := Lib.hid (hdo b o cap0 rfl)
        have HC1 := Lib.hid hc1
        have HCP := Lib.hid hcp
        have HPL := Lib.hid hpl
        have HM := Lib.hid (m8_range (l j).at_)
        clear hc1 hcp hpl hv hdo
        generalize (l j).at_ = x at *
        generalize (l j).p = p at *
        generalize (l j).act = act at *
        obtain ⟨c, hc⟩ : ∃ c : Nat, m8 x = c := ⟨(m8 x).toNat, by have := HM.out; omega⟩
        have hc8 : c < 8 := by have := HM.out; omega
        have hm8 : bits BinOp.and .i64 x 7 = (c : Int) := hc
        have c1 := HC1.out _ HS.out.below
        have R := Lib.hid (dr_read HS.out c (by omega) (by omega))
        obtain ⟨q, hq⟩ : ∃ q, (lastAt L (c : Int)).getD (S c) = q := ⟨_, rfl⟩
        have HQ := Lib.hid hq
        have HQL := Lib.hid (show q.length = 64 by rw [← hq]; exact HS.out.seenLen c)
        rw [hq] at R
        have HNE := Lib.hid (show ∀ W, (binOp .neq 56 (.agg (q.map bv).toArray) (.agg (q.map bv).toArray)).run Try.prog W = .ok (.bool false) W from fun W => by
          have := run_neq56 W q q HQL.out HQL.out
          rwa [bne_self_eq_false] at this)
        clear hq
        go_wp2_with fail
        refine R.out.mono ?_
        rintro e w4 ⟨rfl, hS, _⟩
        have HS := Lib.hid hS
        clear hS R c1
        go_upto_region 10 with (refine wpList_new56 (by rfl) _ _ (by rfl) _ _ rfl (by rfl) (by rfl) q (by rfl) HQL.out ?_; intro w5 hbuf hw5 hlt5; have HBF := Lib.hid hbuf; have HS := Lib.hid (HS.out.made hw5 hlt5); clear hbuf hw5 hlt5)
        generalize w4.heap.size = g9 at *
        go_wp2_with fail
        refine (dr_loose HS.out).mono ?_
        rintro e w6 ⟨rfl, rfl⟩
        have c0 := HDO.out _ HS.out.below
        by_cases hjk : j < k0
        · have hfp : (0 : Int) < ((k0 - j : Nat) : Int) := by omega
          have hf100 : ((k0 - j : Nat) : Int) ≤ 100 := by omega
          have HFP := Lib.hid (And.intro hfp hf100)
          clear hfp hf100
          by_cases hpar : (act : Int) % 2 = 0
          · go_wp2_with fail
            clear c0
            refine (dr_sync HS.out HFP.out.1 HFP.out.2 (by omega)).mono ?_
            rintro e w6 ⟨rfl, hS, hst⟩
            have HBF := Lib.hid (hS.buf hst (.head _) HBF.out)
            have HS := Lib.hid hS
            clear hS hst
            have c1 := HC1.out _ HS.out.below
            have R := Lib.hid (dr_read HS.out c (by omega) (by show 0 ≤ 100000; decide))
            have hq2l := HS.out.seenLen c
            generalize (lastAt _ (c : Int)).getD _ = q2 at R hq2l
            have HQL2 := Lib.hid hq2l
            clear hq2l
            go_wp2_with fail
            refine R.out.mono ?_
            rintro e w7 ⟨rfl, hS, hst⟩
            have HBF := Lib.hid (hS.buf hst (.head _) HBF.out)
            have HS := Lib.hid hS
            clear hS hst R c1
            go_wp2_with (refine wpList_new56 (by rfl) _ _ (by rfl) _ _ rfl (by rfl) (by rfl) q2 (by rfl) HQL2.out ?_; intro w9 hbuf hw9 hlt9; have HS := Lib.hid (HS.out.step hw9); clear hbuf hw9 hlt9)
            exact ⟨⟨j + 1, by omega, by simp, _, _, Nat.zero_le _, (HS.out.less (fun _ h => by cases h)).cast (by omega)⟩, by simp only [intOf]; omega⟩
          · have hpar1 : (act : Int) % 2 = 1 := by omega
            have HB0 := Lib.hid HS.out.below
            have hx : ∀ y : WS (fun X => X = w5.drew), y.w.cell? ⟨b, o + j * 67 + 1, none⟩ = some (.int .i64 x) := fun y => by rw [y.ok]; exact HC1.out _ HB0.out.drew
            have hl56 : ∀ y : WS (fun X => X = w5.drew), (Instr.loadAt 56 (.pointer (some ⟨b, o + j * 67 + 2, none⟩))).run Try.prog y.w = .ok (.agg (p.map bv).toArray) y.w := fun y => by rw [y.ok]; exact HCP.out _ HB0.out.drew
            haveI : Nonempty (WS (fun X => X = w5.drew)) := ⟨⟨w5.drew, rfl⟩⟩
            go_upto_region 14 with fail
            refine wp_region_ws_tail (fun X => X = w5.drew) 12 (by kernel_rfl) (by kernel_rfl) rfl ?_
            simp only [List.take_succ_cons, List.take_zero, List.drop_succ_cons, List.drop_zero]
            repeat (first
              | (go_big_quiet_step (fail))
              | (go_big_quiet_want; refine quiet_load 56 _ (by rfl) _ (by rfl) _ hl56 ?_; go_simp; go_big_quiet_on))
            refine wpQuiet_nil ?_
            intro w8 hw8
            obtain rfl : w8 = w5.drew := hw8
            clear hx hl56 this
            have HBF := Lib.hid (HBF.out.step (Below.refl _ _).drew)
            have HS := Lib.hid (HS.out.step (Below.refl _ _).drew)
            clear HB0
            clear c0
            go_wp2_with fail
            refine (dr_write HS.out HFP.out.1 HFP.out.2 c (by omega) p HPL.out (by omega)).mono ?_
            rintro e w6 ⟨rfl, hS, hst⟩
            have HBF := Lib.hid (hS.buf hst (.head _) HBF.out)
            have HS := Lib.hid hS
            clear hS hst
            have c1 := HC1.out _ HS.out.below
            have R := Lib.hid (dr_read HS.out c (by omega) (by simp; omega))
            have hq2l := HS.out.seenLen c
            generalize (lastAt _ (c : Int)).getD _ = q2 at R hq2l
            have HQL2 := Lib.hid hq2l
            clear hq2l
            go_wp2_with fail
            refine R.out.mono ?_
            rintro e w7 ⟨rfl, hS, hst⟩
            have HBF := Lib.hid (hS.buf hst (.head _) HBF.out)
            have HS := Lib.hid hS
            clear hS hst R c1
            go_wp2_with (refine wpList_new56 (by rfl) _ _ (by rfl) _ _ rfl (by rfl) (by rfl) q2 (by rfl) HQL2.out ?_; intro w9 hbuf hw9 hlt9; have HS := Lib.hid (HS.out.step hw9); clear hbuf hw9 hlt9)
            exact ⟨⟨j + 1, by omega, by simp, _, _, by simp; omega, (HS.out.less (fun _ h => by cases h)).cast (by omega)⟩, by simp only [intOf]; omega⟩
        · have hz : ((k0 - j : Nat) : Int) = 0 := by omega
          rw [hz] at HS
          clear hz
          by_cases hpar : (act : Int) % 2 = 0
          · go_wp2_with fail
            clear c0
            refine (dr_sync0 HS.out).mono ?_
            rintro e w6 ⟨rfl, hS, hst⟩
            have HBF := Lib.hid (hS.buf hst (.head _) HBF.out)
            have HS := Lib.hid hS
            clear hS hst
            have c1 := HC1.out _ HS.out.below
            have R := Lib.hid (dr_read HS.out c (by omega) (by omega))
            rw [HQ.out] at R
            go_wp2_with fail
            refine R.out.mono ?_
            rintro e w7 ⟨rfl, hS, hst⟩
            have HBF := Lib.hid (hS.buf hst (.head _) HBF.out)
            have HS := Lib.hid hS
            clear hS hst R c1
            have hne := HNE.out
            go_upto_region 16 with (refine wpList_new56 (by rfl) _ _ (by rfl) _ _ rfl (by rfl) (by rfl) q (by rfl) HQL.out ?_; intro w9 hbuf hw9 hlt9; have HBF2 := Lib.hid hbuf; have HBF := Lib.hid (HBF.out.step hw9); have HS := Lib.hid (HS.out.step hw9); clear hbuf hw9 hlt9)
            generalize w7.heap.size = g13 at *
            have R := Lib.hid (dr_loose HS.out)
            go_wp2_with (first
              | refine wpList_load56g _ (by rfl) (by rfl) g13 (by rfl) q HBF2.out ?_
              | refine wpList_load56g _ (by rfl) (by rfl) g9 (by rfl) q HBF.out ?_)
            refine R.out.mono ?_
            rintro e w10 ⟨rfl, rfl⟩
            clear R hne HBF HBF2
            go_wp2_with fail
            exact ⟨⟨j + 1, by omega, by simp, by rw [show k0 - (j + 1) = 0 by omega]; exact ⟨_, _, Nat.le_trans hL (Nat.le_succ _), HS.out.less (fun _ h => by cases h)⟩⟩, by simp only [intOf]; omega⟩
          · have hpar1 : (act : Int) % 2 = 1 := by omega
            have HB0 := Lib.hid HS.out.below
            have hx : ∀ y : WS (fun X => X = w5.drew), y.w.cell? ⟨b, o + j * 67 + 1, none⟩ = some (.int .i64 x) := fun y => by rw [y.ok]; exact HC1.out _ HB0.out.drew
            have hl56 : ∀ y : WS (fun X => X = w5.drew), (Instr.loadAt 56 (.pointer (some ⟨b, o + j * 67 + 2, none⟩))).run Try.prog y.w = .ok (.agg (p.map bv).toArray) y.w := fun y => by rw [y.ok]; exact HCP.out _ HB0.out.drew
            haveI : Nonempty (WS (fun X => X = w5.drew)) := ⟨⟨w5.drew, rfl⟩⟩
            go_upto_region 14 with fail
            refine wp_region_ws_tail (fun X => X = w5.drew) 12 (by kernel_rfl) (by kernel_rfl) rfl ?_
            simp only [List.take_succ_cons, List.take_zero, List.drop_succ_cons, List.drop_zero]
            repeat (first
              | (go_big_quiet_step (fail))
              | (go_big_quiet_want; refine quiet_load 56 _ (by rfl) _ (by rfl) _ hl56 ?_; go_simp; go_big_quiet_on))
            refine wpQuiet_nil ?_
            intro w8 hw8
            obtain rfl : w8 = w5.drew := hw8
            clear hx hl56 this
            have HBF := Lib.hid (HBF.out.step (Below.refl _ _).drew)
            have HS := Lib.hid (HS.out.step (Below.refl _ _).drew)
            clear HB0
            clear c0
            go_wp2_with fail
            refine (dr_write0 HS.out c (by omega) p).mono ?_
            rintro e w6 ⟨rfl, hS, hst⟩
            have HBF := Lib.hid (hS.buf hst (.head _) HBF.out)
            have HS := Lib.hid hS
            clear hS hst
            have c1 := HC1.out _ HS.out.below
            have R := Lib.hid (dr_read HS.out c (by omega) (by omega))
            rw [HQ.out] at R
            go_wp2_with fail
            refine R.out.mono ?_
            rintro e w7 ⟨rfl, hS, hst⟩
            have HBF := Lib.hid (hS.buf hst (.head _) HBF.out)
            have HS := Lib.hid hS
            clear hS hst R c1
            have hne := HNE.out
            go_upto_region 16 with (refine wpList_new56 (by rfl) _ _ (by rfl) _ _ rfl (by rfl) (by rfl) q (by rfl) HQL.out ?_; intro w9 hbuf hw9 hlt9; have HBF2 := Lib.hid hbuf; have HBF := Lib.hid (HBF.out.step hw9); have HS := Lib.hid (HS.out.step hw9); clear hbuf hw9 hlt9)
            generalize w7.heap.size = g13 at *
            have R := Lib.hid (dr_loose HS.out)
            go_wp2_with (first
              | refine wpList_load56g _ (by rfl) (by rfl) g13 (by rfl) q HBF2.out ?_
              | refine wpList_load56g _ (by rfl) (by rfl) g9 (by rfl) q HBF.out ?_)
            refine R.out.mono ?_
            rintro e w10 ⟨rfl, rfl⟩
            clear R hne HBF HBF2
            go_wp2_with fail
            exact ⟨⟨j + 1, by omega, by simp, by rw [show k0 - (j + 1) = 0 by omega]; exact ⟨_, _, Nat.le_trans hL (Nat.le_succ _), HS.out.less (fun _ h => by cases h)⟩⟩, by simp only [intOf]; omega⟩
      · have hje : j = n := by omega
        subst hje
        go_wp2_with fail
        refine (dr_fuse HS.out (-5) (-1) (by decide)).mono ?_
        rintro e w5 ⟨rfl, hS⟩
        have HS := Lib.hid hS
        clear hS
        obtain ⟨z, hz⟩ : ∃ z, z = zero64 := ⟨_, rfl⟩
        have HZ := Lib.hid hz
        have HZL := Lib.hid (show z.length = 64 by rw [hz]; rfl)
        clear hz
        have RN := Lib.hid (fun W => read_nil W 0)
        rw [← HZ.out] at RN
        go_wp2_with fail
        refine (RN.out _).mono ?_
        rintro e w6 ⟨rfl, hb⟩
        have HS := Lib.hid (HS.out.step hb)
        clear hb
        go_wp2_with (refine wpList_new56 (by rfl) _ _ (by rfl) _ _ rfl (by rfl) (by rfl) z (by rfl) HZL.out ?_; intro w7 hbuf hw7 hlt7; have HS := Lib.hid (HS.out.step hw7); clear hbuf hw7 hlt7)
        refine (crash_nil _).mono ?_
        rintro e w8 ⟨rfl, hb⟩
        have HS := Lib.hid (HS.out.step hb)
        clear hb
        go_wp2_with fail
        refine (up_nil _).mono ?_
        rintro e w9 ⟨rfl, rfl⟩
        go_wp2_with fail
        refine (fuse_nil _ _).mono ?_
        rintro e w9 ⟨rfl, rfl⟩
        go_wp2_with fail
        refine (dr_sync1 HS.out (by omega)).mono ?_
        rintro e w9 ⟨rfl, hb⟩
        have HB9 := Lib.hid hb
        clear hb
        go_wp2_with (refine wpList_zero56' z HZ.out (by rfl) (by rfl) ?_)
        refine (write_nil _ 0 z).mono ?_
        rintro e w10 ⟨rfl, hb⟩
        have HB10 := Lib.hid (HB9.out.trans (hb.mono HB9.out.size))
        clear hb
        go_wp2_with fail
        refine (sync_nil _).mono ?_
        rintro e w11 ⟨rfl, rfl⟩
        go_wp2_with fail
        refine (size_nil _).mono ?_
        rintro e w11 ⟨rfl, rfl⟩
        go_wp2_with fail
        refine (loose_nil _).mono ?_
        rintro e w11 ⟨rfl, rfl⟩
        go_wp2_with fail
        refine (reads_nil _ _).mono ?_
        rintro e w11 ⟨rfl, rfl⟩
        go_wp2_with fail
        go_ret
        exact ⟨rfl, HB10.out⟩
  · go_wp2_with fail
    refine (A.out _).mono ?_
    rintro e w3 ⟨rfl, hb⟩
    go_wp2_with fail
    go_ret
    exact ⟨rfl, HB.out.trans (hb.mono HB.out.size)⟩
end Go.Proofs.Ytmaaljfcnnlnpaa
