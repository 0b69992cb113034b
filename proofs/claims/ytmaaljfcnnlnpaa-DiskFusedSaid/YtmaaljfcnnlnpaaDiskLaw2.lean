/-
  The walk of the law DiskLast.
-/
import Derived.Test.YtmaaljfcnnlnpaaDiskLaw1
namespace Go.Proofs.Ytmaaljfcnnlnpaa
open Go.RowKit

/-- Behind the first writes, what was written last at a sector. -/
def lastOf (L : List Wr) (i : Nat) : List UInt8 := (lastAt L i).getD zero64

theorem lastOf_snoc (L : List Wr) (x : Int) (hx : 0 ≤ x ∧ x < 8) (p : List UInt8) : (fun i => if i = x.toNat then p else lastOf L i) = lastOf (L ++ [(x, p)]) := by
  funext i
  unfold lastOf
  rw [lastAt_append]
  by_cases h : i = x.toNat
  · rw [if_pos h, if_pos (by omega)]; rfl
  · rw [if_neg h, if_neg (by show ¬ x = (i : Int); omega)]

/-- Kept whole, a disk reads what was written last. -/
theorem last_all (L : List Wr) (n : Nat) (hn : L.length ≤ n) (i : Nat) : stl (kept n fun _ => true) L (fun _ => zero64) i = lastOf L i := by
  have h1 : ∀ m, m ≤ L.length → stl (kept n fun _ => true) (L.take m) (fun _ => zero64) = stl (fun _ => true) (L.take m) (fun _ => zero64) := by
    intro m
    induction m with
    | zero => intro _; rw [List.take_zero]; rfl
    | succ m ih =>
      intro hm
      rw [stl_take _ _ _ (by omega), stl_take _ _ _ (by omega), ih (by omega)]
      simp [kept, show m < n by omega]
  have h2 := h1 L.length (Nat.le_refl _)
  rw [List.take_length] at h2
  rw [h2, ← seen_all]
  rfl

/-- The worlds of the walk. -/
structure LK (w W : World) (d m1 m2 g : Nat) (L LA : List Wr) (k : Nat) (kv : Value) : Prop where
  dx : DX w W d m1 m2 (fun _ => zero64) L (g :: kv.ownBlock.toList)
  arr : Arr W g (lastOf LA)
  row : W.ownsRow w.heap.size 4 1 kv k (List.replicate k (.bool true))
  ne : kv.ownBlock ≠ some g

section
variable {w W W' : World} {d m1 m2 g : Nat} {L LA : List Wr} {k : Nat} {kv : Value}

theorem LK.own (b : Nat) (hb : kv.ownBlock = some b) : b ∈ g :: kv.ownBlock.toList := by
  rw [hb]
  exact .tail _ (.head _)

theorem LK.turn {L' : List Wr} (h : LK w W d m1 m2 g L LA k kv) (hd : DX w W' d m1 m2 (fun _ => zero64) L' (g :: kv.ownBlock.toList)) (hs : Stays W W' (g :: kv.ownBlock.toList)) : LK w W' d m1 m2 g L' LA k kv :=
  ⟨hd, h.arr.stays hs (.head _), ownsRow_of_block h.row (fun b hb => hs b (LK.own b hb)), h.ne⟩

theorem LK.step (h : LK w W d m1 m2 g L LA k kv) (hb : Below W.heap.size W W') : LK w W' d m1 m2 g L LA k kv :=
  h.turn (h.dx.step hb) (fun b hb2 => hb.block b (h.dx.lt hb2))

theorem LK.set (h : LK w W d m1 m2 g L LA k kv) (c : Nat) (hc : c < 8) (p : List UInt8) (hp : p.length = 64) : LK w (W.setCells g (c * 64) (p.map bv)) d m1 m2 g L (LA ++ [((c : Int), p)]) k kv := by
  refine ⟨h.dx.setCells (.head _) _ _, ?_, ownsRow_of_block h.row (fun b hb => setCells_block _ _ _ _ _ (fun e => h.ne (e ▸ hb))), h.ne⟩
  have := h.arr.set c hc p hp
  have e := lastOf_snoc LA (c : Int) (by omega) p
  simp only [Int.toNat_natCast] at e
  rw [← e]
  exact this

theorem DX.grown {X w9 : World} {S : Int → List UInt8} {l : List Nat} (h : DX w X d m1 m2 S L l) (hk : ∀ b, kv.ownBlock = some b → b ∈ l) (hg : X.grownBy w9 kv.ownBlock) {g2 : Nat} (hloc : kv.ownBlock = some g2 ∨ g2 = X.heap.size) (hlt : g2 < w9.heap.size)
    {l' : List Nat} (hl' : ∀ b ∈ l', b ∈ l) : DX w w9 d m1 m2 S L (g2 :: l') := by
  obtain ⟨r, h⟩ := h
  obtain ⟨v, hd, hv⟩ := h.dk
  have h5 := hd.lt
  have ho1 := hd.o1
  have ho2 := hd.o2
  have kn : ∀ b, kv.ownBlock = some b → b < X.heap.size ∧ b ≠ d ∧ b ≠ m1 ∧ b ≠ m2 ∧ v.ownBlock ≠ some b := fun b hb => hv b (hk b hb)
  have kb : ∀ b, b < X.heap.size → (∀ c, kv.ownBlock = some c → c ≠ b) → w9.heap[b]? = X.heap[b]? := fun b hb hne => hg.block b hb (fun e => hne b e.symm rfl)
  refine ⟨r, ⟨⟨hg.os.trans h.below.os, hg.tape.trans h.below.tape, hg.output.trans h.below.output, Nat.le_trans h.below.size hg.size, fun b hb => ?_⟩, h.ge, ⟨v, ?_, fun b hb => ?_⟩, fun b hb => ?_⟩⟩
  · refine (kb b (Nat.lt_of_lt_of_le hb h.below.size) (fun c hc e => ?_)).trans (h.below.block b hb)
    have := h.lge c (hk c hc)
    omega
  · refine hd.of_blocks hg.size (kb _ h5 (fun c hc => (kn c hc).2.1)) (kb _ (by omega) (fun c hc => (kn c hc).2.2.1)) (kb _ (by omega) (fun c hc => (kn c hc).2.2.2.1)) (fun b hb => kb b (ownsRow_ge hd.row hb).2 (fun c hc e => (kn c hc).2.2.2.2 (e ▸ hb)))
  · rcases List.mem_cons.1 hb with rfl | hb
    · rcases hloc with e | rfl
      · exact ⟨hlt, (kn b e).2⟩
      · exact ⟨hlt, by omega, by omega, by omega, fun e => by
          have := (ownsRow_ge hd.row e).2
          omega⟩
    · exact ⟨Nat.lt_of_lt_of_le (hv b (hl' b hb)).1 hg.size, (hv b (hl' b hb)).2⟩
  · rcases List.mem_cons.1 hb with rfl | hb
    · rcases hloc with e | rfl
      · exact h.lge b (hk b e)
      · exact h.below.size
    · exact h.lge b (hl' b hb)

theorem LK.app {X w9 : World} {g2 cap : Nat} (h : LK w W d m1 m2 g L LA k kv) (hX : Below W.heap.size W X) (ho : w9.ownsRow w.heap.size 4 1 (.slice (some ⟨g2, 0, none⟩) (k + 1) cap) (k + 1) (List.replicate k (.bool true) ++ [.bool true]))
    (hg : X.grownBy w9 kv.ownBlock) (hloc : kv.ownBlock = some g2 ∨ g2 = X.heap.size) (hlt : g2 < w9.heap.size) : LK w w9 d m1 m2 g L LA (k + 1) (.slice (some ⟨g2, 0, none⟩) (k + 1) cap) := by
  have h2 := h.step hX
  have hgl : g < X.heap.size := h2.dx.lt (.head _)
  refine ⟨?_, h2.arr.of_block (hg.block g hgl (fun e => h.ne e.symm)), ?_, ?_⟩
  · refine (h2.dx.grown (LK.own (g := g)) hg hloc hlt (l' := [g]) (fun b hb => ?_)).less (fun b hb => ?_)
    · rw [List.mem_singleton.1 hb]; exact .head _
    · rcases List.mem_cons.1 hb with rfl | hb
      · exact .tail _ (.head _)
      · have : b = g2 := by simpa [Value.ownBlock] using hb
        rw [this]; exact .head _
  · rwa [List.replicate_succ']
  · intro e
    have e : g2 = g := by simpa [Value.ownBlock] using e
    rcases hloc with e2 | e2
    · exact h.ne (e ▸ e2)
    · omega

/-- The row of booleans is a keep. -/
theorem LK.keep (h : LK w W d m1 m2 g L LA k kv) (X : World) (hs : Stays W X (g :: kv.ownBlock.toList)) : KeepAt X kv k (fun _ => true) := by
  have hr : X.ownsRow w.heap.size 4 1 kv k (List.replicate k (.bool true)) := ownsRow_of_block h.row (fun b hb => hs b (LK.own b hb))
  rcases hr.2 with ⟨rfl, rfl⟩ | ⟨g2, cap, cur, rfl, _⟩
  · exact KeepAt.empty _ _
  · refine ⟨_, cap, rfl, .inr ⟨g2, 0, rfl, fun i hi => ?_⟩⟩
    rw [Nat.zero_add]
    exact own_cell hr i _ (by rw [List.getElem?_replicate, if_pos hi])
end

theorem row_alloc {W : World} {base : Nat} {e : TypeId} {size : Nat} {v : Value} {n : Nat} {xs : List Value} (h : W.ownsRow base e size v n xs) (x : Obj) : (W.alloc x).ownsRow base e size v n xs :=
  ownsRow_of_block h (fun b hb => ((Below.refl _ W).alloc (Nat.le_refl _) x).block b (ownsRow_ge h hb).2)

theorem info4 : (Try.prog.info? 4).map (fun i => (i.zero, i.size, i.bytes)) = some (some (.bool false), 1, 1) := by kernel_rfl

/-- An act's cells, in any world that stands behind the call's. -/
theorem act_in {w : World} {v : Value} {n : Nat} {l : Nat → Ac} (h : AcsAt w v n l) (k : Nat) (hk : k < n) : ∃ b o cap, v = .slice (some ⟨b, o, none⟩) n cap ∧ (∀ W, Below w.heap.size w W → W.cell? ⟨b, o + k * 67 + 1, none⟩ = some (.int .i64 (l k).at_)) ∧
    (∀ W, Below w.heap.size w W → (Instr.loadAt 56 (.pointer (some ⟨b, o + k * 67 + 2, none⟩))).run Try.prog W = .ok (.agg ((l k).p.map bv).toArray) W) ∧ (l k).p.length = 64 := by
  obtain ⟨a, cap, rfl, _, h0 | ⟨b, o, rfl, hc⟩⟩ := h
  · omega
  · exact ⟨b, o, cap, rfl, fun W hW => ((hc k hk).below hW).c1, fun W hW => load56_at ((hc k hk).below hW).len ((hc k hk).below hW).c2, (hc k hk).len⟩

set_option maxRecDepth 100000 in
set_option maxHeartbeats 4000000 in
theorem diskLast_walk (v0 : Value) (w : World) (h0 : AcsArg w v0) :
    Calls Try.prog 15 #[v0] w fun e w' => e = .returned (.bool true) ∧ Below w.heap.size w w' := by
  obtain ⟨n, l, ha⟩ := h0
  have A := Lib.hid (fun W => awake16 W)
  have F := Lib.hid (fun W (hb : Below w.heap.size w W) => few16 (ha.below hb))
  have N := Lib.hid (fun W (hb : Below w.heap.size w W) => dx_new hb)
  have HA := Lib.hid ha
  obtain ⟨a0, cap0, rfl, hn, -⟩ := ha
  obtain ⟨i0, hi, hz0, hz1, hz2⟩ := info_parts info4
  have HI := Lib.hid (And.intro hi (And.intro hz0 (And.intro hz1 hz2)))
  clear hi hz0 hz1 hz2
  unfold maxLen at hn
  go_enter Try.func15, Try.ntmps15
  go_wp2_with fail
  refine (A.out _).mono ?_
  rintro e w1 ⟨rfl, hb1⟩
  go_wp2_with fail
  refine (F.out _ hb1).mono ?_
  rintro e w2 ⟨⟨b, rfl, hb60⟩, rfl⟩
  have HB := Lib.hid hb1
  clear hb1
  rcases Bool.eq_false_or_eq_true b with rfl | rfl
  · have hn60 := hb60 rfl
    clear hb60 hn
    go_wp2_with fail
    refine (N.out _ HB.out).mono ?_
    rintro e w3 ⟨d, m1, m2, rfl, hS⟩
    have HS := Lib.hid hS
    clear hS HB N
    go_upto_region 6 with (refine wpList_arr84 (by rfl) (by rfl) ?_; intro w4 harr hb4 hlt4; have HW0 := Lib.hid (show LK w w4 d m1 m2 w3.heap.size [] [] 0 (.slice none 0 0) from ⟨HS.out.made hb4 hlt4, harr, ⟨rfl, .inl ⟨rfl, rfl⟩⟩, fun e => by cases e⟩); clear harr hb4 hlt4)
    generalize w3.heap.size = g at *
    go_wp2_with fail
    go_loopw [6, 7, 8, 9, 25, 26, 27, 28, 29, 30, 31, 32, 33, 34, 35, 36, 37, 38, 39, 40, 41, 42, 43, 44, 45, 46, 47, 48, 49, 50, 51, 52, 53, 54, 55, 56, 57, 58, 59, 60, 61, 62, 63, 64, 65, 66, 67, 68, 69, 70, 71, 72, 73, 74, 75, 76, 77, 78, 79, 80, 81] (fun a6 a7 _ _ _ _ _ _ _ _ _ _ _ _ _ _ _ _ _ _ _ _ _ _ _ _ _ _ _ _ _ _ _ _ _ _ _ _ _ _ _ _ _ _ _ _ _ _ _ _ _ _ _ _ _ _ _ _ _ _ _ wr => ∃ k : Nat, ∃ kv, k ≤ n ∧ a7 = .int .i64 k ∧ a6 = kv ∧ LK w wr d m1 m2 g (wrs l k) (wrs l k) k kv) (fun _ a7 _ _ _ _ _ _ _ _ _ _ _ _ _ _ _ _ _ _ _ _ _ _ _ _ _ _ _ _ _ _ _ _ _ _ _ _ _ _ _ _ _ _ _ _ _ _ _ _ _ _ _ _ _ _ _ _ _ _ _ _ => n - (intOf a7).toNat)
    case atStart => exact ⟨0, _, Nat.zero_le _, rfl, rfl, HW0.out⟩
    case round =>
      clear HW0 HS
      obtain ⟨k, kv, hk, rfl, rfl, hW⟩ := hrel
      have HW := Lib.hid hW
      clear hW
      by_cases hlt : k < n
      · obtain ⟨b, o, cap0', hv, hc1, hcp, hpl⟩ := act_in HA.out k hlt
        obtain ⟨rfl, rfl⟩ : a0 = some ⟨b, o, none⟩ ∧ cap0 = cap0' := by injection hv with e1 _ e3; exact ⟨e1, e3⟩
        have HC1 := Lib.hid hc1
        have HCP := Lib.hid hcp
        have HPL := Lib.hid hpl
        have HN := Lib.hid (wrs_succ l k)
        have HM := Lib.hid (m8_range (l k).at_)
        clear hc1 hcp hpl hv
        generalize (l k).at_ = x at *
        generalize (l k).p = p at *
        obtain ⟨c, hc⟩ : ∃ c : Nat, m8 x = c := ⟨(m8 x).toNat, by have := HM.out; omega⟩
        have hc8 : c < 8 := by have := HM.out; omega
        have hm8 : bits BinOp.and .i64 x 7 = (c : Int) := hc
        rw [hc] at HN
        have HB0 := Lib.hid HW.out.dx.below
        have hx : ∀ y : WS (fun X => X = wr.drew), y.w.cell? ⟨b, o + k * 67 + 1, none⟩ = some (.int .i64 x) := fun y => by rw [y.ok]; exact HC1.out _ HB0.out.drew
        have hl56 : ∀ y : WS (fun X => X = wr.drew), (Instr.loadAt 56 (.pointer (some ⟨b, o + k * 67 + 2, none⟩))).run Try.prog y.w = .ok (.agg (p.map bv).toArray) y.w := fun y => by rw [y.ok]; exact HCP.out _ HB0.out.drew
        haveI : Nonempty (WS (fun X => X = wr.drew)) := ⟨⟨wr.drew, rfl⟩⟩
        go_upto_region 9 with fail
        refine wp_region_ws_tail (fun X => X = wr.drew) 12 (by kernel_rfl) (by kernel_rfl) rfl ?_
        simp only [List.take_succ_cons, List.take_zero, List.drop_succ_cons, List.drop_zero]
        repeat (first
          | (go_big_quiet_step (fail))
          | (go_big_quiet_want; refine quiet_load 56 _ (by rfl) _ (by rfl) _ hl56 ?_; go_simp; go_big_quiet_on))
        refine wpQuiet_nil ?_
        intro w8 hw8
        obtain rfl : w8 = wr.drew := hw8
        clear hx hl56 this
        have HW := Lib.hid (HW.out.step (Below.refl _ _).drew)
        clear HB0
        go_wp2_with fail
        refine (dx_write HW.out.dx c (by omega) p HPL.out (by rw [wrs_length]; omega)).mono ?_
        rintro e w9 ⟨rfl, hS, hst⟩
        rw [← HN.out] at hS
        have HW := Lib.hid (HW.out.turn hS hst)
        clear hS hst
        have HB0 := Lib.hid HW.out.dx.below
        have hx : ∀ y : WS (fun X => X = w9.drew), y.w.cell? ⟨b, o + k * 67 + 1, none⟩ = some (.int .i64 x) := fun y => by rw [y.ok]; exact HC1.out _ HB0.out.drew
        have hl56 : ∀ y : WS (fun X => X = w9.drew), (Instr.loadAt 56 (.pointer (some ⟨b, o + k * 67 + 2, none⟩))).run Try.prog y.w = .ok (.agg (p.map bv).toArray) y.w := fun y => by rw [y.ok]; exact HCP.out _ HB0.out.drew
        haveI : Nonempty (WS (fun X => X = w9.drew)) := ⟨⟨w9.drew, rfl⟩⟩
        go_upto_region 11 with fail
        refine wp_region_ws_tail (fun X => X = w9.drew) 12 (by kernel_rfl) (by kernel_rfl) rfl ?_
        simp only [List.take_succ_cons, List.take_zero, List.drop_succ_cons, List.drop_zero]
        repeat (first
          | (go_big_quiet_step (fail))
          | (go_big_quiet_want; refine quiet_load 56 _ (by rfl) _ (by rfl) _ hl56 ?_; go_simp; go_big_quiet_on))
        refine wpQuiet_nil ?_
        intro w8 hw8
        obtain rfl : w8 = w9.drew := hw8
        clear hx hl56 this
        have HW := Lib.hid (HW.out.step (Below.refl _ _).drew)
        have HT := Lib.hid (HW.out.arr.there c hc8)
        have HW := Lib.hid (HW.out.set c hc8 p HPL.out)
        rw [← HN.out] at HW
        clear HB0
        go_upto_region 12 with (refine wpList_store56k (by rfl) _ _ (by rfl) g (c * 64) (by rfl) p (by rfl) HPL.out HT.out ?_)
        generalize (w9.drew.setCells g (c * 64) (p.map bv)) = w10 at *
        clear HT
        have HBS := Lib.hid HW.out.dx.below.size
        go_upto_region 13 with (refine wpList_append_lies _ (by rfl) _ _ 75 (by rfl) w.heap.size 4 i0 (.bool false) 1 1 Try.underlying75 HI.out.1 HI.out.2.1 HI.out.2.2.1 HI.out.2.2.2 rfl (by decide) u6 k (List.replicate k (.bool true)) (by rfl) (row_alloc HW.out.row _) ⟨w10.heap.size, 0, none⟩ 1 1 [.bool true] (by rfl) rfl (cell_one_new _ _ _) (by simp [Value.oneCell']) (by decide) (by unfold maxLen; omega) (by omega) (Nat.le_trans HBS.out (by simp)) _ rfl ?_; intro g2 cap2 w11 hown hgrow hloc hlt2; have HW := Lib.hid (HW.out.app ((Below.refl _ _).alloc (Nat.le_refl _) _) hown hgrow hloc hlt2); clear hown hgrow hloc hlt2)
        obtain ⟨kv2, hkv2⟩ : ∃ kv2, Value.slice (some ⟨g2, 0, none⟩) (k + 1) cap2 = kv2 := ⟨_, rfl⟩
        have HKV := Lib.hid hkv2
        rw [hkv2] at HW
        have c1 := HC1.out _ HW.out.dx.below
        have R := Lib.hid (dx_read HW.out.dx c (by omega) (by rw [wrs_length]; omega))
        have HP := Lib.hid (show (lastAt (wrs l (k + 1)) (c : Int)).getD ((fun _ => zero64) (c : Int)) = p by rw [HN.out, lastAt_append, if_pos rfl]; rfl)
        rw [HP.out] at R
        clear HBS hkv2
        go_wp2_with fail
        refine R.out.mono ?_
        rintro e w12 ⟨rfl, hS, hst⟩
        have HW := Lib.hid (HW.out.turn hS hst)
        have hne : ∀ W, (binOp .neq 56 (.agg (p.map bv).toArray) (.agg (p.map bv).toArray)).run Try.prog W = .ok (.bool false) W := fun W => by
          have := run_neq56 W p p HPL.out HPL.out
          rwa [bne_self_eq_false] at this
        have HNE := Lib.hid hne
        clear hS hst R HP c1 hne
        go_upto_region 14 with (refine wpList_new56 (by rfl) _ _ (by rfl) _ _ rfl (by rfl) (by rfl) p (by rfl) HPL.out ?_; intro w13 hbuf hw13 hlt13; have HBF := Lib.hid hbuf; have HW := Lib.hid (HW.out.step hw13); clear hbuf hw13 hlt13)
        generalize w12.heap.size = g3 at *
        have HB0 := Lib.hid HW.out.dx.below
        have hl1 : ∀ y : WS (fun X => X = w13.drew), (Instr.loadAt 56 (.pointer (some ⟨g3, 0, none⟩))).run Try.prog y.w = .ok (.agg (p.map bv).toArray) y.w := fun y => by rw [y.ok]; exact HBF.out.drew.load56
        have hl2 : ∀ y : WS (fun X => X = w13.drew), (Instr.loadAt 56 (.pointer (some ⟨b, o + k * 67 + 2, none⟩))).run Try.prog y.w = .ok (.agg (p.map bv).toArray) y.w := fun y => by rw [y.ok]; exact HCP.out _ HB0.out.drew
        have hne := HNE.out
        haveI : Nonempty (WS (fun X => X = w13.drew)) := ⟨⟨w13.drew, rfl⟩⟩
        refine wp_region_ws (fun X => X = w13.drew) (by kernel_rfl) (by kernel_rfl) rfl ?_
        repeat (first
          | (go_big_quiet_step (fail))
          | (go_big_quiet_want; refine quiet_load 56 _ (by rfl) _ (by rfl) _ hl1 ?_; go_simp; go_big_quiet_on)
          | (go_big_quiet_want; refine quiet_load 56 _ (by rfl) _ (by rfl) _ hl2 ?_; go_simp; go_big_quiet_on))
        refine wpQuiet_nil ?_
        rintro w14 ⟨⟨w15, hw15⟩, hw14⟩
        have hww : w14 = w13.drew := hw14.trans hw15
        clear hw14 hw15
        subst hww
        clear hl1 hl2 hne this
        have HW := Lib.hid (HW.out.step (Below.refl _ _).drew)
        clear HB0 HBF HNE
        go_wp2_with fail
        exact ⟨⟨k + 1, kv2, by omega, by simp, HKV.out, HW.out⟩, by simp only [intOf]; omega⟩
      · have hke : k = n := by omega
        subst hke
        have R := Lib.hid (dx_loose HW.out.dx)
        rw [wrs_length] at R
        go_wp2_with fail
        refine R.out.mono ?_
        rintro e w5 ⟨rfl, rfl⟩
        clear R
        go_wp2_with fail
        refine (dx_crash HW.out.dx (by rw [wrs_length]; omega) _ k (fun _ => true) (fun X hs _ => HW.out.keep X hs)).mono ?_
        rintro e w6 ⟨rfl, hZ, hst⟩
        have HR := Lib.hid (HW.out.arr.stays hst (.head _))
        have HZ := Lib.hid (hZ.elim fun r hr => (⟨r, hr.less (l' := [g]) (fun b hb => by rw [List.mem_singleton.1 hb]; exact .head _)⟩ : DZ w w6 d m1 m2 (stl (kept k fun _ => true) (wrs l k) (fun _ => zero64)) [g]))
        clear hZ hst
        go_wp2_with fail
        refine (dx_up HZ.out).mono ?_
        rintro e w7 ⟨rfl, hS, hst⟩
        have HR := Lib.hid (HR.out.stays hst (.head _))
        have HL := Lib.hid (fun i => last_all (wrs l k) k (by rw [wrs_length]; exact Nat.le_refl _) i)
        obtain ⟨S1, hS1⟩ : ∃ S1, stl (kept k fun _ => true) (wrs l k) (fun _ => zero64) = S1 := ⟨_, rfl⟩
        rw [hS1] at hS HL
        have HSL := Lib.hid hS.len
        have HS := Lib.hid hS
        clear hS hst hS1 HZ HW
        generalize lastOf (wrs l k) = fl at *
        go_wp2_with fail
        go_loopw [10, 11, 12, 92, 93, 94, 95, 96, 97, 98, 99, 100, 101, 102, 103, 104, 105, 106] (fun a10 _ _ _ _ _ _ _ _ _ _ _ _ _ _ _ _ _ wr => ∃ j : Nat, j ≤ 8 ∧ a10 = .int .i64 j ∧ DX w wr d m1 m2 S1 [] [g] ∧ Arr wr g fl) (fun a10 _ _ _ _ _ _ _ _ _ _ _ _ _ _ _ _ _ _ => 8 - (intOf a10).toNat)
        case atStart => exact ⟨0, by omega, rfl, HS.out, HR.out⟩
        case round =>
          clear HS HR
          obtain ⟨j, hj, rfl, hS, hR⟩ := hrel
          have HS := Lib.hid hS
          have HR := Lib.hid hR
          clear hS hR
          by_cases hlt : j < 8
          · obtain ⟨q, hq⟩ : ∃ q, fl j = q := ⟨_, rfl⟩
            have R := Lib.hid (dx_read HS.out j (by omega) (by decide))
            have HP := Lib.hid (show (lastAt ([] : List Wr) (j : Int)).getD (S1 j) = q from (HL.out j).trans hq)
            rw [HP.out] at R
            have HQL := Lib.hid (show q.length = 64 by rw [← HP.out]; exact HSL.out j)
            have HQ := Lib.hid hq
            clear hq HP
            go_wp2_with fail
            refine R.out.mono ?_
            rintro e w9 ⟨rfl, hS, hst⟩
            have HR := Lib.hid (HR.out.stays hst (.head _))
            have HS2 := Lib.hid hS
            have hne : ∀ W, (binOp .neq 56 (.agg (q.map bv).toArray) (.agg (q.map bv).toArray)).run Try.prog W = .ok (.bool false) W := fun W => by
              have := run_neq56 W q q HQL.out HQL.out
              rwa [bne_self_eq_false] at this
            have HNE := Lib.hid hne
            clear hS hst R hne
            go_upto_region 24 with (refine wpList_new56 (by rfl) _ _ (by rfl) _ _ rfl (by rfl) (by rfl) q (by rfl) HQL.out ?_; intro w10 hbuf hw10 hlt10; have HB := Lib.hid hbuf; have HS3 := Lib.hid (HS2.out.made hw10 hlt10); have HR3 := Lib.hid (HR.out.of_block (hw10.block _ (HS2.out.lt (.head _)))); clear hbuf hw10 hlt10)
            generalize w9.heap.size = g3 at *
            have HRD := Lib.hid (show Arr w10.drew g fl from HR3.out.of_block rfl)
            have hl1 : ∀ y : WS (fun X => X = w10.drew), (Instr.loadAt 56 (.pointer (some ⟨g3, 0, none⟩))).run Try.prog y.w = .ok (.agg (q.map bv).toArray) y.w := fun y => by rw [y.ok]; exact HB.out.drew.load56
            have hl2 : ∀ y : WS (fun X => X = w10.drew), (Instr.loadAt 56 (.pointer (some ⟨g, j * 64, none⟩))).run Try.prog y.w = .ok (.agg (q.map bv).toArray) y.w := fun y => by
              rw [y.ok]
              have := HRD.out.at_ j hlt
              rw [HQ.out] at this
              exact load56_at HQL.out this
            have hne := HNE.out
            haveI : Nonempty (WS (fun X => X = w10.drew)) := ⟨⟨w10.drew, rfl⟩⟩
            refine wp_region_ws (fun X => X = w10.drew) (by kernel_rfl) (by kernel_rfl) rfl ?_
            repeat (first
              | (go_big_quiet_step (fail))
              | (go_big_quiet_want; refine quiet_load 56 _ (by rfl) _ (by rfl) _ hl1 ?_; go_simp; go_big_quiet_on)
              | (go_big_quiet_want; refine quiet_load 56 _ (by rfl) _ (by rfl) _ hl2 ?_; go_simp; go_big_quiet_on))
            refine wpQuiet_nil ?_
            rintro w12 ⟨⟨w11, hw11⟩, hw12⟩
            have hww : w12 = w10.drew := hw12.trans hw11
            clear hw12 hw11
            subst hww
            clear hl1 hl2 hne this
            have HS4 := Lib.hid ((HS3.out.less (l' := [g]) (fun k hk => .tail _ hk)).step (Below.refl _ _).drew)
            go_wp2_with fail
            exact ⟨⟨j + 1, by omega, by simp, HS4.out, HRD.out⟩, by simp only [intOf]; omega⟩
          · obtain rfl : j = 8 := by omega
            go_wp2_with fail
            go_ret
            exact ⟨rfl, HS.out.below⟩
  · go_wp2_with fail
    refine (A.out _).mono ?_
    rintro e w3 ⟨rfl, hb⟩
    go_wp2_with fail
    go_ret
    exact ⟨rfl, HB.out.trans (hb.mono HB.out.size)⟩
end Go.Proofs.Ytmaaljfcnnlnpaa
