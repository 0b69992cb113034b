/-
  The walk of the law PageUnlike.
-/
import Derived.Test.YtmaaljfcnnlnpaaPageLaw2
namespace Go.Proofs.Ytmaaljfcnnlnpaa
open Go.RowKit

/-- The worlds of the law's walk: two pages in memory. -/
structure PU (w W : World) (p q : Pg) (g2 : Nat) : Prop where
  below : Below w.heap.size w W
  p1 : PgAt W w.heap.size 0 p
  p2 : PgAt W g2 0 q
  l1 : w.heap.size < W.heap.size
  lt : g2 < W.heap.size

theorem PU.step {w W W' : World} {p q : Pg} {g2 : Nat} (h : PU w W p q g2) (hb : Below W.heap.size W W') : PU w W' p q g2 :=
  ⟨h.below.trans (hb.mono h.below.size), h.p1.below hb h.l1, h.p2.below hb h.lt, Nat.lt_of_lt_of_le h.l1 hb.size, Nat.lt_of_lt_of_le h.lt hb.size⟩

theorem PU.start (w : World) (p q : Pg) (t t2 : TypeId) : PU w ((w.alloc (.cells #[.int .u32 p.ep, .int .u32 p.nu, .int .i64 p.ki, .bool p.fi, .bool p.la, .string ⟨p.da.toArray⟩] t)).alloc (.cells #[.int .u32 q.ep, .int .u32 q.nu, .int .i64 q.ki, .bool q.fi, .bool q.la, .string ⟨q.da.toArray⟩] t2)) p q (w.heap.size + 1) := by
  have s := PB.start w p t
  have hb : ∀ (W : World) x, Below W.heap.size W (W.alloc x) := fun W x => (Below.refl _ _).alloc (Nat.le_refl _) x
  have e : (w.alloc (.cells #[.int .u32 p.ep, .int .u32 p.nu, .int .i64 p.ki, .bool p.fi, .bool p.la, .string ⟨p.da.toArray⟩] t)).heap.size = w.heap.size + 1 := by simp
  have s2 := PB.start (w.alloc (.cells #[.int .u32 p.ep, .int .u32 p.nu, .int .i64 p.ki, .bool p.fi, .bool p.la, .string ⟨p.da.toArray⟩] t)) q t2
  have h2 := s2.pg
  rw [e] at h2
  exact ⟨(s.step (hb _ _)).below, (s.step (hb _ _)).pg, h2, by simp; omega, by simp⟩

/-- .. and two rows of bytes. -/
structure PV (w W : World) (p q : Pg) (g2 ga gb : Nat) (a b : List UInt8) : Prop where
  pu : PU w W p q g2
  ba : Buf W ga a
  bb : Buf W gb b
theorem PV.step {w W W' : World} {p q : Pg} {g2 ga gb : Nat} {a b : List UInt8} (h : PV w W p q g2 ga gb a b) (hb : Below W.heap.size W W') : PV w W' p q g2 ga gb a b :=
  ⟨h.pu.step hb, h.ba.step hb, h.bb.step hb⟩

theorem run_pg_slice (t : TypeId) (ht : Try.prog.underlying t = some (.array 64 5)) (g n : Nat) (h : n ≤ 49) (W : World) : (Instr.sliceAt t (.pointer (some ⟨g, 0, none⟩)) (some (.int .i64 15)) (some (.int .i64 (15 + (n : Int)))) none).run Try.prog W = .ok (.slice (some ⟨g, 15, none⟩) n 49) W := by
  have e1 : (15 + (n : Int)).toNat = 15 + n := by omega
  have e2 : (15 : Int) ≤ 15 + (n : Int) ∧ (15 + (n : Int)) ≤ 64 := by omega
  simp [Instr.sliceAt, run_underlying ht, Instr.sliceBounds, Instr.sliceBound, asIntOf, Instr.sureAddr, e1, e2, Addr.add]
  intro h1
  omega

theorem run_eq42 (p q : Pg) (W : World) : (binOp .eql 42 (.agg #[.int .u32 p.ep, .int .u32 p.nu, .int .i64 p.ki, .bool p.fi, .bool p.la, .string ⟨p.da.toArray⟩]) (.agg #[.int .u32 q.ep, .int .u32 q.nu, .int .i64 q.ki, .bool q.fi, .bool q.la, .string ⟨q.da.toArray⟩])).run Try.prog W = .ok (.bool (decide (p = q))) W := by
  obtain ⟨e1, n1, k1, f1, l1, d1⟩ := p
  obtain ⟨e2, n2, k2, f2, l2, d2⟩ := q
  simp [go_sem]
  by_cases h1 : e1 = e2 <;> by_cases h2 : n1 = n2 <;> by_cases h3 : k1 = k2 <;> by_cases h4 : f1 = f2 <;> by_cases h5 : l1 = l2 <;> by_cases h6 : d1 = d2 <;> simp [h1, h2, h3, h4, h5, h6] <;> omega

set_option maxRecDepth 100000 in
set_option maxHeartbeats 4000000 in
theorem pageUnlike_walk (p q : Pg) (he : p.ep < 4294967296) (hn : p.nu < 4294967296) (hm : p.da.length ≤ maxLen) (he' : q.ep < 4294967296) (hn' : q.nu < 4294967296) (hm' : q.da.length ≤ maxLen) (w : World) :
    Calls Try.prog 19 #[.agg #[.int .u32 p.ep, .int .u32 p.nu, .int .i64 p.ki, .bool p.fi, .bool p.la, .string ⟨p.da.toArray⟩], .agg #[.int .u32 q.ep, .int .u32 q.nu, .int .i64 q.ki, .bool q.fi, .bool q.la, .string ⟨q.da.toArray⟩]] w fun e w' => e = .returned (.bool true) ∧ Below w.heap.size w w' := by
  have A := Lib.hid (fun W => awake17 W)
  have O1 := Lib.hid (fun W => of17_any p W)
  have O2 := Lib.hid (fun W => of17_any q W)
  have L1 := Lib.hid (fun W => lay_val p hm he hn W)
  have L2 := Lib.hid (fun W => lay_val q hm' he' hn' W)
  have S0 := Lib.hid (fun t t2 => PU.start w p q t t2)
  have hsz : (ByteArray.mk p.da.toArray).size = p.da.length := by simp [ByteArray.size]
  have hsz' : (ByteArray.mk q.da.toArray).size = q.da.length := by simp [ByteArray.size]
  go_enter Try.func19, Try.ntmps19
  go_wp2_with fail
  refine (A.out _).mono ?_
  rintro e w1 ⟨rfl, hb⟩
  have HS1 := Lib.hid ((S0.out _ _).step hb)
  clear hb S0
  have q5 := HS1.out.p1.c5
  have r5 := HS1.out.p2.c5
  simp only [Nat.zero_add] at q5 r5
  generalize hg2 : w.heap.size + 1 = g2 at *
  by_cases hlen : 200 < p.da.length ∨ 200 < q.da.length
  · have h200 : (200 < p.da.length) ∨ (¬ 200 < p.da.length ∧ 200 < q.da.length) := by omega
    rcases h200 with h2 | ⟨h2, h3⟩
    · go_wp2_with fail
      refine (A.out _).mono ?_
      rintro e w2 ⟨rfl, hb⟩
      go_wp2_with fail
      go_ret
      exact ⟨rfl, (HS1.out.step hb).below⟩
    · go_wp2_with fail
      refine (A.out _).mono ?_
      rintro e w2 ⟨rfl, hb⟩
      go_wp2_with fail
      go_ret
      exact ⟨rfl, (HS1.out.step hb).below⟩
  · have h2 : ¬ 200 < p.da.length := by omega
    have h3 : ¬ 200 < q.da.length := by omega
    clear hlen
    go_wp2_with (refine wpList_load42g _ (by rfl) (by rfl) _ 0 (by rfl) p HS1.out.p1 ?_)
    refine (O1.out _).mono ?_
    rintro e w2 ⟨rfl, hb⟩
    have HS2 := Lib.hid (HS1.out.step hb)
    clear hb q5 r5 HS1 h2 h3
    go_wp2_with fail
    refine (L1.out _).mono ?_
    rintro e w3 ⟨rfl, hb⟩
    have HS3 := Lib.hid (HS2.out.step hb)
    clear hb HS2
    obtain ⟨a, ea, hae⟩ : ∃ a ea, a.length = 64 ∧ (if p.right = true then layB p else zero64) = a ∧ (if p.right = true then (0 : Int) else 1) = ea ∧ (p.right = true ∧ ea = 0 ∧ a = layB p ∨ p.right = false ∧ ea = 1) := by
      by_cases hr : p.right = true
      · exact ⟨layB p, 0, layB_length p (right_ki p hr).2.2, by rw [if_pos hr], by rw [if_pos hr], .inl ⟨hr, rfl, rfl⟩⟩
      · exact ⟨zero64, 1, rfl, by rw [if_neg hr], by rw [if_neg hr], .inr ⟨by simpa using hr, rfl⟩⟩
    obtain ⟨hal, ha1, ha2, ha3⟩ := hae
    obtain ⟨b, eb, hbe⟩ : ∃ b eb, b.length = 64 ∧ (if q.right = true then layB q else zero64) = b ∧ (if q.right = true then (0 : Int) else 1) = eb ∧ (q.right = true ∧ eb = 0 ∧ b = layB q ∨ q.right = false ∧ eb = 1) := by
      by_cases hr : q.right = true
      · exact ⟨layB q, 0, layB_length q (right_ki q hr).2.2, by rw [if_pos hr], by rw [if_pos hr], .inl ⟨hr, rfl, rfl⟩⟩
      · exact ⟨zero64, 1, rfl, by rw [if_neg hr], by rw [if_neg hr], .inr ⟨by simpa using hr, rfl⟩⟩
    obtain ⟨hbl, hb1, hb2, hb3⟩ := hbe
    rw [ha1, ha2]
    rw [hb1, hb2] at L2
    have HA := Lib.hid ha3
    have HBB := Lib.hid hb3
    clear ha1 ha2 ha3 hb1 hb2 hb3
    go_wp2_with (first
      | (refine wpList_new56 (by rfl) _ _ (by rfl) _ _ rfl (by rfl) (by rfl) a (by rfl) hal ?_; intro w4 hbuf hw4 hlt4; have HB4 := Lib.hid hbuf; have HS4 := Lib.hid (HS3.out.step hw4); clear hbuf hw4)
      | refine wpList_load42g _ (by rfl) (by rfl) _ 0 (by rfl) q HS4.out.p2 ?_)
    refine (O2.out _).mono ?_
    rintro e w5 ⟨rfl, hb⟩
    have HS5 := Lib.hid (HS4.out.step hb)
    have HB5 := Lib.hid (HB4.out.step hb)
    clear hb HS4 HB4
    generalize w3.heap.size = ga at *
    go_wp2_with fail
    refine (L2.out _).mono ?_
    rintro e w6 ⟨rfl, hb⟩
    have HS6 := Lib.hid (HS5.out.step hb)
    have HB6 := Lib.hid (HB5.out.step hb)
    clear hb HS5 HB5
    by_cases hok : p.right = true ∧ q.right = true
    · obtain ⟨hp, hq⟩ := hok
      obtain ⟨rfl, hla⟩ : ea = 0 ∧ a = layB p := by
        rcases HA.out with h | h
        · exact h.2
        · rw [hp] at h; cases h.1
      obtain ⟨rfl, hlb⟩ : eb = 0 ∧ b = layB q := by
        rcases HBB.out with h | h
        · exact h.2
        · rw [hq] at h; cases h.1
      obtain ⟨hk1, hk2, hk3⟩ := right_ki p hp
      obtain ⟨x, hx⟩ : ∃ x, decide (p = q) = x := ⟨_, rfl⟩
      have hab : ∀ W, (binOp .eql 56 (.agg (a.map bv).toArray) (.agg (b.map bv).toArray)).run Try.prog W = .ok (.bool x) W := fun W => by
        have h1 := run_eql56 W a b hal hbl
        have h2 : (a == b) = x := by
          rw [← hx, hla, hlb]
          by_cases h : p = q
          · subst h; simp
          · have : layB p ≠ layB q := fun e => h ((lay_inj p q hp hq he hn he' hn').1 e)
            simp [h, this]
        rwa [h2] at h1
      have hpq := fun W => run_eq42 p q W
      rw [hx] at hpq
      obtain ⟨f, hf⟩ : ∃ f, four (CrcP.sum (a.drop 4)) = f := ⟨_, rfl⟩
      have hfa : a.take 4 = f := by
        rw [← hf, hla, layB_drop]
        unfold layB
        exact List.take_left' (four_length _)
      have hda : (a.drop 15).take p.da.length = p.da := by
        rw [hla, layB_form, form15, List.take_left' rfl]
      have S := Lib.hid (fun W => refsum_any ⟨(a.drop 4).toArray⟩ (by unfold maxLen; simp [ByteArray.size]; omega) W)
      have F := Lib.hid (fun W => reffour_any (CrcP.sum (a.drop 4)) (CrcP.sum_lt _) W)
      rw [hf] at F
      have HX := Lib.hid (And.intro hf (And.intro hfa hda))
      clear hx hf hfa hda hla hlb HA HBB
      go_wp2_with (refine wpList_new56 (by rfl) _ _ (by rfl) _ _ rfl (by rfl) (by rfl) b (by rfl) hbl ?_; intro w7 hbuf hw7 hlt7; have HJ := Lib.hid (show PV w w7 p q g2 ga w6.heap.size a b from ⟨HS6.out.step hw7, HB6.out.step hw7, hbuf⟩); clear hbuf hw7)
      have J0 : PV w w7.drew p q g2 ga w6.heap.size a b := HJ.out.step (Below.refl _ _).drew
      have HJ0 := Lib.hid J0
      clear J0
      generalize w6.heap.size = gb at *
      have hl1 : ∀ y : WS (fun W => PV w W p q g2 ga gb a b), (Instr.loadAt 56 (.pointer (some ⟨ga, 0, none⟩))).run Try.prog y.w = .ok (.agg (a.map bv).toArray) y.w := fun y => y.ok.ba.load56
      have hl2 : ∀ y : WS (fun W => PV w W p q g2 ga gb a b), (Instr.loadAt 56 (.pointer (some ⟨gb, 0, none⟩))).run Try.prog y.w = .ok (.agg (b.map bv).toArray) y.w := fun y => y.ok.bb.load56
      have hl3 : ∀ y : WS (fun W => PV w W p q g2 ga gb a b), (Instr.loadAt 42 (.pointer (some ⟨w.heap.size, 0, none⟩))).run Try.prog y.w = .ok (.agg #[.int .u32 p.ep, .int .u32 p.nu, .int .i64 p.ki, .bool p.fi, .bool p.la, .string ⟨p.da.toArray⟩]) y.w := fun y => y.ok.pu.p1.loadAt42
      have hl4 : ∀ y : WS (fun W => PV w W p q g2 ga gb a b), (Instr.loadAt 42 (.pointer (some ⟨g2, 0, none⟩))).run Try.prog y.w = .ok (.agg #[.int .u32 q.ep, .int .u32 q.nu, .int .i64 q.ki, .bool q.fi, .bool q.la, .string ⟨q.da.toArray⟩]) y.w := fun y => y.ok.pu.p2.loadAt42
      have hx5 : ∀ y : WS (fun W => PV w W p q g2 ga gb a b), y.w.cell? ⟨w.heap.size, 5, none⟩ = some (.string ⟨p.da.toArray⟩) := fun y => y.ok.pu.p1.c5
      have hc1 : ∀ y : WS (fun W => PV w W p q g2 ga gb a b), (convert 25 9 (.slice (some ⟨ga, 0, none⟩) 4 64)).run Try.prog y.w = .ok (.string ⟨f.toArray⟩) y.w := fun y => by
        have h1 := y.ok.ba.bytesFrom 0 4
        rw [List.drop_zero, HX.out.2.1] at h1
        exact run_bytes_str h1 (by rw [← HX.out.1]; rfl)
      have hc2 : ∀ y : WS (fun W => PV w W p q g2 ga gb a b), (convert 25 9 (.slice (some ⟨ga, 4, none⟩) 60 60)).run Try.prog y.w = .ok (.string ⟨(a.drop 4).toArray⟩) y.w := fun y => by
        have h1 := y.ok.ba.bytesFrom 4 60
        rw [List.take_of_length_le (by simp; omega)] at h1
        exact run_bytes_str h1 (by simp; omega)
      have hc3 : ∀ y : WS (fun W => PV w W p q g2 ga gb a b), (convert 25 9 (.slice (some ⟨ga, 15, none⟩) p.da.length 49)).run Try.prog y.w = .ok (.string ⟨p.da.toArray⟩) y.w := fun y => by
        have h1 := y.ok.ba.bytesFrom 15 p.da.length
        rw [HX.out.2.2] at h1
        exact run_bytes_str h1 rfl
      have hw15 : IntKind.i64.wrap (15 + (p.da.length : Int)) = 15 + (p.da.length : Int) := wrap_small (15 + p.da.length) (by omega)
      have hsl := fun W => run_pg_slice 56 Try.underlying56 ga p.da.length hk3 W
      refine wp_region_ws (fun W => PV w W p q g2 ga gb a b) (by kernel_rfl) (by kernel_rfl) HJ0.out ?_
      haveI : Nonempty (WS (fun W => PV w W p q g2 ga gb a b)) := ⟨⟨w7.drew, HJ0.out⟩⟩
      repeat (first
        | (go_big_quiet_step (first | (go_at_call 32; exact ws_same (S.out _)) | (go_at_call 34; exact ws_call (fun W W' h hb => h.step hb) (F.out _))))
        | (go_big_quiet_want; refine quiet_load 56 _ (by rfl) _ (by rfl) _ hl1 ?_; go_simp; go_big_quiet_on)
        | (go_big_quiet_want; refine quiet_load 56 _ (by rfl) _ (by rfl) _ hl2 ?_; go_simp; go_big_quiet_on)
        | (go_big_quiet_want; refine quiet_load 42 _ (by rfl) _ (by rfl) _ hl3 ?_; go_simp; go_big_quiet_on)
        | (go_big_quiet_want; refine quiet_load 42 _ (by rfl) _ (by rfl) _ hl4 ?_; go_simp; go_big_quiet_on))
      refine wpQuiet_nil ?_
      rintro _ ⟨⟨W, hW⟩, rfl⟩
      have HW := Lib.hid hW
      clear hW hl1 hl2 hl3 hl4 hx5 hc1 hc2 hc3 hab hpq hsl this
      go_wp2_with fail
      go_ret
      exact ⟨rfl, HW.out.pu.below⟩
    · have hz : ea = 1 ∨ (ea = 0 ∧ eb = 1) := by
        rcases HA.out with h | h
        · rcases HBB.out with h' | h'
          · exact absurd ⟨h.1, h'.1⟩ hok
          · exact .inr ⟨h.2.1, h'.2⟩
        · exact .inl h.2
      clear HA HBB hok
      rcases hz with rfl | ⟨rfl, rfl⟩
      · go_wp2_with (refine wpList_new56 (by rfl) _ _ (by rfl) _ _ rfl (by rfl) (by rfl) b (by rfl) hbl ?_; intro w7 hbuf hw7 hlt7; have HS7 := Lib.hid (HS6.out.step hw7); clear hbuf hw7)
        go_ret
        exact ⟨rfl, HS7.out.below⟩
      · go_wp2_with (refine wpList_new56 (by rfl) _ _ (by rfl) _ _ rfl (by rfl) (by rfl) b (by rfl) hbl ?_; intro w7 hbuf hw7 hlt7; have HS7 := Lib.hid (HS6.out.step hw7); clear hbuf hw7)
        go_ret
        exact ⟨rfl, HS7.out.below⟩
end Go.Proofs.Ytmaaljfcnnlnpaa
