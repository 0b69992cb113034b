/-
  The walk of the law CrcBursts.
-/
import Derived.Test.YtmaaljfcnnlnpaaCrcWalk5
namespace Go.Proofs.Ytmaaljfcnnlnpaa
open Go.RowKit

theorem num_set (bs : List UInt8) : ∀ (j : Nat) (d : UInt8) (h : j < bs.length), CrcP.num (bs.set j (bs[j] ^^^ d)) = CrcP.num bs ^^^ (2 ^ (8 * j) * d.toNat) := by
  induction bs with
  | nil => intro j d h; simp at h
  | cons b bs ih =>
    intro j d h
    have hb : b.toNat < 256 := b.toNat_lt
    have hd : d.toNat < 256 := d.toNat_lt
    cases j with
    | zero =>
      show (b ^^^ d).toNat + 256 * CrcP.num bs = (b.toNat + 256 * CrcP.num bs) ^^^ (2 ^ 0 * d.toNat)
      rw [UInt8.toNat_xor, CrcP.add_eq_xor _ _ (Nat.xor_lt_two_pow (n := 8) hb hd), CrcP.add_eq_xor _ _ hb, Nat.pow_zero, Nat.one_mul, Nat.xor_assoc, Nat.xor_assoc, Nat.xor_comm d.toNat]
    | succ j =>
      have hj : j < bs.length := by simpa using h
      show b.toNat + 256 * CrcP.num (bs.set j (bs[j] ^^^ d)) = (b.toNat + 256 * CrcP.num bs) ^^^ (2 ^ (8 * (j + 1)) * d.toNat)
      rw [ih j d hj, CrcP.add_eq_xor _ _ hb, CrcP.add_eq_xor _ _ hb, Nat.xor_assoc]
      congr 1
      have e : 2 ^ (8 * (j + 1)) * d.toNat = 256 * (2 ^ (8 * j) * d.toNat) := by
        rw [show 8 * (j + 1) = 8 * j + 8 by omega, Nat.pow_add, show (2 : Nat) ^ 8 = 256 from rfl, Nat.mul_comm (2 ^ (8 * j)) 256, Nat.mul_assoc]
      rw [e]
      have := Nat.shiftLeft_xor_distrib (a := CrcP.num bs) (b := 2 ^ (8 * j) * d.toNat) (i := 8)
      simp only [Nat.shiftLeft_eq] at this
      rw [Nat.mul_comm 256, Nat.mul_comm 256, Nat.mul_comm 256]
      exact this

/-- A bit of the text turned: the number's bit is turned. -/
theorem num_flip (bs : List UInt8) (p : Nat) (h : p / 8 < bs.length) (d : UInt8) (hd : d.toNat = 2 ^ (p % 8)) :
    CrcP.num (bs.set (p / 8) (bs[p / 8] ^^^ d)) = CrcP.num bs ^^^ 2 ^ p := by
  rw [num_set bs _ d h, hd, ← Nat.pow_add]
  congr 2
  omega

theorem flip_more (N f i v : Nat) (hv : v < 2 ^ i) : (N ^^^ (2 ^ f * v)) ^^^ 2 ^ (f + i) = N ^^^ (2 ^ f * (v + 2 ^ i)) := by
  rw [Nat.xor_assoc]
  congr 1
  have e1 : v + 2 ^ i = v ^^^ 2 ^ i := by
    rw [Nat.add_comm, ← nat_join i (2 ^ i) v (Nat.mod_self _) hv]
    apply Nat.eq_of_testBit_eq
    intro j
    rw [Nat.testBit_xor, Nat.testBit_or, Nat.testBit_two_pow]
    by_cases h : i = j
    · subst h
      rw [Nat.testBit_lt_two_pow hv]; simp
    · simp [h]
  rw [e1]
  have := Nat.shiftLeft_xor_distrib (a := v) (b := 2 ^ i) (i := f)
  simp only [Nat.shiftLeft_eq] at this
  rw [Nat.mul_comm (2 ^ f) v, Nat.mul_comm (2 ^ f) (v ^^^ 2 ^ i), this, ← Nat.pow_add, Nat.add_comm i f]

/-- What the loop has made of the text behind i rounds: bits from f on are turned, as the number v has them. -/
structure Turned (s : ByteArray) (f i : Nat) (bs : List UInt8) : Prop where
  len : bs.length = s.size
  num : ∃ v, v < 2 ^ i ∧ CrcP.num bs = CrcP.num s.data.toList ^^^ (2 ^ f * v)

theorem Turned.start (s : ByteArray) (f : Nat) : Turned s f 0 s.data.toList := ⟨by simp, 0, by simp, by simp⟩
theorem Turned.skip {s : ByteArray} {f i : Nat} {bs : List UInt8} (h : Turned s f i bs) : Turned s f (i + 1) bs := by
  obtain ⟨hl, v, hv, hn⟩ := h
  exact ⟨hl, v, by rw [Nat.pow_succ]; omega, hn⟩
theorem Turned.flip {s : ByteArray} {f i : Nat} {bs : List UInt8} (h : Turned s f i bs) (hj : (f + i) / 8 < bs.length) (d : UInt8) (hd : d.toNat = 2 ^ ((f + i) % 8)) :
    Turned s f (i + 1) (bs.set ((f + i) / 8) (bs[(f + i) / 8] ^^^ d)) := by
  obtain ⟨hl, v, hv, hn⟩ := h
  refine ⟨by simpa using hl, v + 2 ^ i, by rw [Nat.pow_succ]; omega, ?_⟩
  rw [num_flip bs _ hj d hd, hn, flip_more _ _ _ _ hv]

theorem Turned.burst {s : ByteArray} {f : Nat} {bs : List UInt8} (h : Turned s f 32 bs) (hf : f ≤ 8 * s.size) : CrcP.sum bs = CrcP.sum s.data.toList ↔ bs = s.data.toList := by
  obtain ⟨hl, v, hv, hn⟩ := h
  refine CrcP.sum_burst bs s.data.toList (by simpa using hl) f v (by omega) (by simpa using hv) ?_
  rw [hn, Nat.xor_comm, ← Nat.xor_assoc, Nat.xor_self, Nat.zero_xor]

theorem BytesAt.set {w : World} {b : Nat} {bs : List UInt8} (h : BytesAt w b 0 bs) (j : Nat) (x : UInt8) : BytesAt (w.setCell ⟨b, j, none⟩ (bv x)) b 0 (bs.set j x) := by
  intro k hk
  have hk2 : k < bs.length := by simpa using hk
  have hc := h k hk2
  rw [List.getElem_set]
  by_cases e : j = k
  · subst e
    rw [if_pos rfl]
    rw [Nat.zero_add] at hc ⊢
    exact World.cell?_setCell_same w _ _ hc
  · rw [if_neg e, World.cell?_setCell_other]
    · exact hc
    · intro e2; injection e2; omega

theorem BytesAt.below {W W' : World} {B o : Nat} {bs : List UInt8} (h : BytesAt W B o bs) (hb : Below W.heap.size W W') (hB : B < W.heap.size) : BytesAt W' B o bs :=
  fun j hj => (hb.cell (p := ⟨B, o + j, none⟩) hB).trans (h j hj)

/-- What the last statement's region wants of its worlds. -/
structure RgB (w W : World) (B : Nat) (bs : List UInt8) : Prop where
  below : Below w.heap.size w W
  bytes : BytesAt W B 0 bs
  lt : B < W.heap.size

theorem RgB.rel {w W : World} {B : Nat} {bs : List UInt8} (h : RgB w W B bs) {f : FuncId} {args : Array Value} {r : Ending}
    (c : Calls Try.prog f args W fun e w' => e = r ∧ Below W.heap.size W w') : Calls Try.prog f args W fun e w' => e = r ∧ RgB w w' B bs :=
  c.mono fun _ _ ⟨he, hw⟩ => ⟨he, h.below.trans (hw.mono h.below.size), h.bytes.below hw h.lt, Nat.lt_of_lt_of_le h.lt hw.size⟩

set_option maxRecDepth 100000 in
set_option maxHeartbeats 1000000 in
theorem crcBursts_walk (s : ByteArray) (at_ : Nat) (ha : at_ < 65536) (chg : Nat) (_hc : chg < 4294967296) (w : World) :
    Calls Try.prog 3 #[.string s, .int .u16 at_, .int .u32 chg] w fun e w' => e = .returned (.bool true) ∧ Below w.heap.size w w' := by
  have hb := Below.refl w.heap.size w
  by_cases h1 : 800 < s.size
  · go_enter Try.func3, Try.ntmps3
    go_wp2_with fail
    refine (below_rel hb (awake02 _)).mono ?_; clear hb; rintro e w1 ⟨rfl, hb⟩
    go_wp2_with fail
    refine (below_rel hb (awake02 _)).mono ?_; clear hb; rintro e w1 ⟨rfl, hb⟩
    go_wp2_with fail
    go_ret
    exact ⟨rfl, hb⟩
  by_cases h2 : s.size = 0
  · have h20 : ((s.size : Int) == 0) = true := beq_iff_eq.2 (by omega)
    go_enter Try.func3, Try.ntmps3
    go_wp2_with fail
    refine (below_rel hb (awake02 _)).mono ?_; clear hb; rintro e w1 ⟨rfl, hb⟩
    go_wp2_with fail
    refine (below_rel hb (awake02 _)).mono ?_; clear hb; rintro e w1 ⟨rfl, hb⟩
    go_wp2_with fail
    go_ret
    exact ⟨rfl, hb⟩
  have h20 : ((s.size : Int) == 0) = false := beq_eq_false_iff_ne.2 (by omega)
  obtain ⟨f, hf, hfe⟩ : ∃ f : Nat, f < 8 * s.size ∧ (at_ : Int) % (8 * (s.size : Int)) = f :=
    ⟨at_ % (8 * s.size), Nat.mod_lt _ (by omega), by rw [Int.natCast_emod, Int.natCast_mul]; rfl⟩
  go_enter Try.func3, Try.ntmps3
  go_wp2_with fail
  refine (below_rel hb (awake02 _)).mono ?_; clear hb; rintro e w1 ⟨rfl, hb⟩
  obtain ⟨cap, w2, hconv, hcap, hb2, hsz2, hby, hfz⟩ := run_str_bytes w1 s
  have HB := Lib.hid (hb.trans (hb2.mono hb.size))
  have HY := Lib.hid hby
  have HZ := Lib.hid hfz
  have hB : w.heap.size ≤ w1.heap.size := hb.size
  clear hb hb2 hby hfz hsz2
  go_wp2_with fail
  clear hconv
  try rw [hfe]
  generalize w1.heap.size = B at *
  go_loopw [9, 10, 32, 33, 34, 35, 36, 37, 38, 39, 40, 41, 42, 43, 44, 45, 46, 47, 48, 49, 50, 51, 52, 53, 54, 55, 56, 57, 58, 59, 60] (fun a9 _ _ _ _ _ _ _ _ _ _ _ _ _ _ _ _ _ _ _ _ _ _ _ _ _ _ _ _ _ _ wr => ∃ i : Nat, i ≤ 32 ∧ a9 = .int .i64 i ∧ ∃ bs, Turned s f i bs ∧ BytesAt wr B 0 bs ∧ (∀ j, j < s.size → wr.frozen? ⟨B, j, none⟩ = false) ∧ Below w.heap.size w wr) (fun a9 _ _ _ _ _ _ _ _ _ _ _ _ _ _ _ _ _ _ _ _ _ _ _ _ _ _ _ _ _ _ _ => 32 - (intOf a9).toNat)
  case atStart => exact ⟨0, by omega, rfl, _, Turned.start s f, HY.out, HZ.out, HB.out⟩
  case round =>
    clear HY HZ HB hfe
    obtain ⟨i, hi, rfl, bs, hT, hY, hZ, hBw⟩ := hrel
    by_cases hlt : i < 32
    · have HT := Lib.hid hT
      have HY := Lib.hid hY
      have HZ := Lib.hid hZ
      have HB := Lib.hid hBw
      have hlen := hT.len
      by_cases hp : f + i < 8 * s.size
      · have hj : (f + i) / 8 < bs.length := by omega
        have hcell := hY _ hj
        rw [Nat.zero_add] at hcell
        have hfr := hZ ((f + i) / 8) (by omega)
        unfold bv at hcell
        have hbl := (bs[(f + i) / 8]).toNat_lt
        have HLen := Lib.hid hlen
        clear hT hY hZ hBw hlen
        generalize hbd : bs[(f + i) / 8] = b at *
        have HBD := Lib.hid hbd
        clear hbd
        by_cases hbit : (bits BinOp.and IntKind.u32 ((chg : Int) / 2 ^ i) 1 == 1) = true
        · go_wp2
          go_region
          obtain ⟨d, hd⟩ : ∃ d : UInt8, d.toNat = 2 ^ ((f + i) % 8) := ⟨UInt8.ofNat (2 ^ ((f + i) % 8)), by
            rw [UInt8.toNat_ofNat']
            exact Nat.mod_eq_of_lt (Nat.pow_lt_pow_right (by decide) (Nat.mod_lt _ (by decide)))⟩
          have hx : bits BinOp.xor IntKind.u8 (b.toNat : Int) (2 ^ ((f + i) % 8) % 256) = ((b ^^^ d).toNat : Int) := by
            have e : (2 : Int) ^ ((f + i) % 8) % 256 = (d.toNat : Int) := by
              rw [hd, Int.natCast_pow]
              refine Int.emod_eq_of_lt (Int.pow_nonneg (by decide)) ?_
              have : (2 : Nat) ^ ((f + i) % 8) < 2 ^ 8 := Nat.pow_lt_pow_right (by decide) (Nat.mod_lt _ (by decide))
              have h2 : (((2 : Nat) ^ ((f + i) % 8) : Nat) : Int) < 256 := by omega
              rw [Int.natCast_pow] at h2
              exact h2
            rw [e, u8_xor_nat _ _ b.toNat_lt d.toNat_lt, UInt8.toNat_xor]
          rw [hx]
          have HF := HT.out.flip hj d hd
          rw [HBD.out] at HF
          have HS := HY.out.set ((f + i) / 8) (b ^^^ d)
          clear hx
          generalize b ^^^ d = x at *
          have HF2 := Lib.hid HF
          have HS2 := Lib.hid HS
          clear HF HS hd
          go_wp2
          go_roundw
          case rel => exact ⟨i + 1, by omega, by go_num, _, HF2.out, HS2.out, fun j hj => by have := HZ.out j hj; rw [← this]; exact World.frozen?_setCell _ _ _ _, (HB.out.setCell (p := ⟨B, (f + i) / 8, none⟩) hB _).drew⟩
          case measure => simp [intOf]; omega
        · rw [Bool.not_eq_true] at hbit
          go_wp2
          go_roundw
          case rel => exact ⟨i + 1, by omega, by go_num, bs, HT.out.skip, HY.out, HZ.out, HB.out⟩
          case measure => simp [intOf]; omega
      · clear hT hY hZ hBw hlen
        by_cases hbit : (bits BinOp.and IntKind.u32 ((chg : Int) / 2 ^ i) 1 == 1) = true
        · go_wp2
          go_roundw
          case rel => exact ⟨i + 1, by omega, by go_num, bs, HT.out.skip, HY.out, HZ.out, HB.out⟩
          case measure => simp [intOf]; omega
        · rw [Bool.not_eq_true] at hbit
          go_wp2
          go_roundw
          case rel => exact ⟨i + 1, by omega, by go_num, bs, HT.out.skip, HY.out, HZ.out, HB.out⟩
          case measure => simp [intOf]; omega
    · have h32 : i = 32 := by omega
      have hbst := (show Turned s f 32 bs from h32 ▸ hT).burst (by omega)
      clear h32
      have hlen := hT.len
      have hc1 : ∀ W : World, BytesAt W B 0 bs → (convert 25 9 (.slice (some ⟨B, 0, none⟩) s.size cap)).run Try.prog W = .ok (.string ⟨bs.toArray⟩) W := fun W hW => run_bytes_str hW hlen.symm
      have hBlt : B < wr.heap.size := by
        have := hY 0 (by omega)
        exact World.block_lt_of_cell? _ _ this
      have HC := Lib.hid hc1
      have HR : RgB w wr.drew B bs := ⟨hBw.drew, hY, hBlt⟩
      have c0 := hc1 wr.drew HR.bytes
      have z1 : (⟨bs.toArray⟩ : ByteArray).size ≤ maxLen := by show bs.toArray.size ≤ _; simp; unfold maxLen; omega
      have z2 : s.size ≤ maxLen := by unfold maxLen; omega
      clear hT hY hZ hBw hc1 hlen
      obtain ⟨b, e1, e2⟩ : ∃ b : Bool, (((CrcP.sum (⟨bs.toArray⟩ : ByteArray).data.toList : Nat) : Int) == ((CrcP.sum s.data.toList : Nat) : Int)) = b ∧ ((⟨bs.toArray⟩ : ByteArray).toList == s.toList) = b := by
        by_cases hbs : bs = s.data.toList
        · exact ⟨true, beq_iff_eq.2 (by rw [show (⟨bs.toArray⟩ : ByteArray).data.toList = bs from rfl, hbs]), beq_iff_eq.2 (by rw [Lib.toList_data, Lib.toList_data]; exact hbs)⟩
        · refine ⟨false, beq_eq_false_iff_ne.2 (fun h => hbs (hbst.1 (by exact_mod_cast h))), beq_eq_false_iff_ne.2 (fun h => hbs ?_)⟩
          rw [Lib.toList_data, Lib.toList_data] at h; exact h
      clear hbst
      generalize (⟨bs.toArray⟩ : ByteArray) = S at *
      go_wp2_with fail
      go_region_with (go_at_call 29; refine (HR.rel (sum_any _ (by first | exact z1 | exact z2) _)).mono ?_; clear HR c0; rintro e w3 ⟨rfl, HR⟩; have c0 := HC.out w3 HR.bytes)
      all_goals
        go_wp2_with fail
        go_ret
        exact ⟨by first | rfl | simp, HR.below⟩
end Go.Proofs.Ytmaaljfcnnlnpaa
