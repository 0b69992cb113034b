/-
  What is laid is read as it was, and what is read is what was laid. Nothing of the program is named here.
-/
import Derived.Test.YtmaaljfcnnlnpaaPagePure
namespace Go.Proofs.Ytmaaljfcnnlnpaa

/-- No page. -/
def noPg : Pg := ⟨0, 0, 0, false, false, []⟩

theorem layB_form (p : Pg) : layB p = four (CrcP.sum (bodyB p)) ++ (four p.ep ++ (four p.nu ++ ([UInt8.ofNat p.ki.toNat, marks p, UInt8.ofNat p.da.length] ++ (p.da ++ List.replicate (49 - p.da.length) 0)))) := by
  simp [layB, bodyB]

section
variable (x y z : Nat) (k m l : UInt8) (R : List UInt8)
theorem form12 : (four x ++ (four y ++ (four z ++ ([k, m, l] ++ R)))).getD 12 0 = k := rfl
theorem form13 : (four x ++ (four y ++ (four z ++ ([k, m, l] ++ R)))).getD 13 0 = m := rfl
theorem form14 : (four x ++ (four y ++ (four z ++ ([k, m, l] ++ R)))).getD 14 0 = l := rfl
theorem form15 : (four x ++ (four y ++ (four z ++ ([k, m, l] ++ R)))).drop 15 = R := rfl
theorem form4 : (four x ++ (four y ++ (four z ++ ([k, m, l] ++ R)))).drop 4 = four y ++ (four z ++ ([k, m, l] ++ R)) := rfl
theorem form8 : (four x ++ (four y ++ (four z ++ ([k, m, l] ++ R)))).drop 8 = four z ++ ([k, m, l] ++ R) := rfl

theorem parse_form (hy : y < 4294967296) (hz : z < 4294967296) : parse (four x ++ (four y ++ (four z ++ ([k, m, l] ++ R)))) =
    ⟨y, z, k.toNat, decide (0 < (m &&& 1).toNat), decide (0 < (m &&& 2).toNat), R.take (min l.toNat 49)⟩ := by
  unfold parse
  rw [form12, form13, form14, form15, form4, form8, numP_four _ hy, numP_four _ hz]
end

theorem marks_bits (p : Pg) : decide (0 < (marks p &&& 1).toNat) = p.fi ∧ decide (0 < (marks p &&& 2).toNat) = p.la := by
  unfold marks
  cases p.fi <;> cases p.la <;> decide

theorem right_ki (p : Pg) (h : p.right = true) : (p.ki = 1 ∧ p.fi = false ∧ p.la = false ∨ p.ki = 2) ∧ 1 ≤ p.da.length ∧ p.da.length ≤ 49 := by
  unfold Pg.right at h
  simp only [Bool.and_eq_true, Bool.or_eq_true, decide_eq_true_eq, beq_iff_eq, Bool.not_eq_true'] at h
  obtain ⟨⟨h1, h2⟩, h3⟩ := h
  exact ⟨h1.elim .inr (fun h => .inl ⟨h.1.1, h.1.2, h.2⟩), h2, h3⟩

theorem right_of (p : Pg) (h : (p.ki = 1 ∧ p.fi = false ∧ p.la = false ∨ p.ki = 2) ∧ 1 ≤ p.da.length ∧ p.da.length ≤ 49) : p.right = true := by
  unfold Pg.right
  obtain ⟨h1, h2, h3⟩ := h
  rcases h1 with ⟨a, b, c⟩ | a <;> simp [*]

theorem parse_lay (p : Pg) (hr : p.right = true) (he : p.ep < 4294967296) (hn : p.nu < 4294967296) : parse (layB p) = p := by
  obtain ⟨hk, h1, h2⟩ := right_ki p hr
  rw [layB_form, parse_form _ _ _ _ _ _ _ he hn]
  have hl : (UInt8.ofNat p.da.length).toNat = p.da.length := by simp; omega
  have hki : ((UInt8.ofNat p.ki.toNat).toNat : Int) = p.ki := by
    have : (UInt8.ofNat p.ki.toNat).toNat = p.ki.toNat := by simp; omega
    omega
  obtain ⟨m1, m2⟩ := marks_bits p
  rw [hl, hki, m1, m2, show min p.da.length 49 = p.da.length by omega, List.take_left' rfl]

/-- The sum stands ahead. -/
def Summed (bs : List UInt8) : Prop := numP bs = CrcP.sum (bs.drop 4)

theorem lay_summed (p : Pg) : Summed (layB p) := by
  unfold Summed
  rw [layB_drop]
  unfold layB
  exact numP_four _ (CrcP.sum_lt _) _

theorem read_lay (p : Pg) (hr : p.right = true) (he : p.ep < 4294967296) (hn : p.nu < 4294967296) : readB (layB p) = (p, 0) := by
  unfold readB
  rw [if_neg (fun h => h (lay_summed p)), parse_lay p hr he hn, if_pos ⟨hr, rfl⟩]

theorem read_3 (bs : List UInt8) (h : ¬Summed bs) : readB bs = (noPg, 3) := by
  unfold readB
  rw [if_pos (show numP bs ≠ CrcP.sum (bs.drop 4) from h)]
  rfl

theorem read_cases (bs : List UInt8) (h : Summed bs) : readB bs = (noPg, 4) ∨ readB bs = (parse bs, 0) ∧ (parse bs).right = true ∧ layB (parse bs) = bs := by
  unfold readB
  rw [if_neg (fun h' => h' h)]
  by_cases h2 : (parse bs).right = true ∧ layB (parse bs) = bs
  · rw [if_pos h2]; exact .inr ⟨rfl, h2⟩
  · rw [if_neg h2]; exact .inl rfl

theorem num_set (y : UInt8) : ∀ (l : List UInt8) (i : Nat) (hi : i < l.length), CrcP.num l ^^^ CrcP.num (l.set i y) = 2 ^ (8 * i) * (l[i].toNat ^^^ y.toNat)
  | [], i, hi => by simp at hi
  | h :: t, 0, _ => by
    show (h.toNat + 256 * CrcP.num t) ^^^ (y.toNat + 256 * CrcP.num t) = _
    rw [CrcP.add_eq_xor _ _ h.toNat_lt, CrcP.add_eq_xor _ _ y.toNat_lt]
    simp
    rw [Nat.xor_assoc, ← Nat.xor_assoc (256 * _), Nat.xor_comm (256 * _) y.toNat, Nat.xor_assoc, Nat.xor_self, Nat.xor_zero]
  | h :: t, i + 1, hi => by
    show (h.toNat + 256 * CrcP.num t) ^^^ (h.toNat + 256 * CrcP.num (t.set i y)) = _
    have hi' : i < t.length := by simpa using hi
    rw [CrcP.add_eq_xor _ _ h.toNat_lt, CrcP.add_eq_xor _ _ h.toNat_lt]
    rw [Nat.xor_comm h.toNat, Nat.xor_assoc, ← Nat.xor_assoc h.toNat, Nat.xor_self, Nat.zero_xor]
    have e := num_set y t i hi'
    have d : ∀ a b : Nat, 256 * a ^^^ 256 * b = 256 * (a ^^^ b) := fun a b => by
      have := Nat.shiftLeft_xor_distrib (a := a) (b := b) (i := 8)
      simp only [Nat.shiftLeft_eq] at this
      rw [Nat.mul_comm 256 a, Nat.mul_comm 256 b, Nat.mul_comm 256 (a ^^^ b)]
      exact this.symm
    rw [d, e, show 8 * (i + 1) = 8 * i + 8 by omega, Nat.pow_add]
    simp only [List.getElem_cons_succ]
    rw [← Nat.mul_assoc, Nat.mul_comm 256]

/-- A byte changed: the sum is no longer right. -/
theorem changed (bs : List UInt8) (hl : bs.length = 64) (h : Summed bs) (i : Nat) (hi : i < 64) (y : UInt8) (hy : y ≠ bs[i]) : ¬Summed (bs.set i y) := by
  unfold Summed at *
  intro h2
  by_cases h4 : i < 4
  · rw [List.drop_set_of_lt h4, ← h] at h2
    unfold numP at h2
    have e := CrcP.num_inj _ _ (by simp) h2
    have e2 : ((bs.set i y).take 4)[i]? = (bs.take 4)[i]? := by rw [e]
    rw [List.getElem?_take_of_lt h4, List.getElem?_take_of_lt h4, List.getElem?_set_self (by omega), List.getElem?_eq_getElem (by omega)] at e2
    exact hy (Option.some.inj e2)
  · have e1 : numP (bs.set i y) = numP bs := by
      unfold numP
      rw [List.take_set_of_le (by omega)]
    have e2 : (bs.set i y).drop 4 = (bs.drop 4).set (i - 4) y := by
      rw [List.drop_set, if_neg h4]
    have hj : i - 4 < (bs.drop 4).length := by simp; omega
    rw [e1, h, e2] at h2
    have hb := num_set y (bs.drop 4) (i - 4) hj
    have hlt : ∀ a b : UInt8, a.toNat ^^^ b.toNat < 4294967296 := fun a b => by
      have h1 := a.toNat_lt
      have h2 := b.toNat_lt
      have : a.toNat ^^^ b.toNat < 2 ^ 8 := Nat.xor_lt_two_pow (by omega) (by omega)
      omega
    have e3 := (CrcP.sum_burst _ _ (by simp) _ _ (by omega) (hlt _ _) hb).1 h2
    have e4 : ((bs.drop 4).set (i - 4) y)[i - 4]? = (bs.drop 4)[i - 4]? := by rw [← e3]
    rw [List.getElem?_set_self hj, List.getElem?_drop, show 4 + (i - 4) = i by omega, List.getElem?_eq_getElem (by omega)] at e4
    exact hy (Option.some.inj e4)

theorem four_numP (l : List UInt8) (h : 4 ≤ l.length) : four (numP l) = l.take 4 := by
  have hl : (l.take 4).length = 4 := by simp; omega
  refine CrcP.num_inj _ _ (by rw [four_length, hl]) ?_
  have : numP l < 4294967296 := by
    have := CrcP.num_lt (l.take 4)
    rw [hl] at this
    exact this
  rw [num_four _ this]
  rfl

theorem numP_lt (l : List UInt8) : numP l < 4294967296 := by
  unfold numP
  have h1 := CrcP.num_lt (l.take 4)
  have h2 : (l.take 4).length ≤ 4 := by simp; omega
  have h3 : 2 ^ (8 * (l.take 4).length) ≤ 2 ^ 32 := Nat.pow_le_pow_right (by decide) (by omega)
  omega

/-- Sixty-four bytes, part by part. -/
theorem form (bs : List UInt8) (hl : bs.length = 64) : ∃ x y z k m l R, bs = four x ++ (four y ++ (four z ++ ([k, m, l] ++ R))) ∧ R.length = 49 ∧ x < 4294967296 ∧ y < 4294967296 ∧ z < 4294967296 := by
  refine ⟨numP bs, numP (bs.drop 4), numP (bs.drop 8), bs[12], bs[13], bs[14], bs.drop 15, ?_, by simp; omega, numP_lt _, numP_lt _, numP_lt _⟩
  rw [four_numP _ (by omega), four_numP _ (by simp; omega), four_numP _ (by simp; omega)]
  have e : bs.drop 12 = [bs[12], bs[13], bs[14]] ++ bs.drop 15 := by
    rw [List.drop_eq_getElem_cons (by omega), List.drop_eq_getElem_cons (by omega), List.drop_eq_getElem_cons (by omega)]
    rfl
  rw [← e]
  have e2 : ∀ a, (bs.drop a).take 4 ++ bs.drop (a + 4) = bs.drop a := fun a => by rw [← List.drop_drop, List.take_append_drop]
  rw [e2 8, e2 4]
  exact (List.take_append_drop 4 bs).symm

/-- Is all behind the data nought? -/
def padB (bs : List UInt8) : Bool := (bs.drop (15 + (bs.getD 14 0).toNat)).all (· == 0)

theorem padB_iff (bs : List UInt8) (hl : bs.length = 64) : padB bs = true ↔ ∀ i, 15 + (bs.getD 14 0).toNat ≤ i → i < 64 → bs.getD i 0 = 0 := by
  unfold padB
  rw [List.all_eq_true]
  constructor
  · intro h i h1 h2
    have := h bs[i] (List.mem_drop_iff_getElem.2 ⟨i - (15 + (bs.getD 14 0).toNat), by omega, by congr 1; omega⟩)
    rw [List.getD_eq_getElem?_getD, List.getElem?_eq_getElem (by omega)]
    simpa using this
  · intro h x hx
    obtain ⟨j, hj, rfl⟩ := List.mem_drop_iff_getElem.1 hx
    have := h (15 + (bs.getD 14 0).toNat + j) (by omega) (by omega)
    rw [List.getD_eq_getElem?_getD, List.getElem?_eq_getElem (by omega)] at this
    simpa using this

/-- What the document reads. -/
def refRead (bs : List UInt8) : Pg × Nat :=
  if numP bs ≠ CrcP.sum (bs.drop 4) then (noPg, 3)
  else if (bs.getD 12 0).toNat < 1 ∨ 2 < (bs.getD 12 0).toNat ∨ 3 < (bs.getD 13 0).toNat ∨ ((bs.getD 12 0).toNat = 1 ∧ (bs.getD 13 0).toNat ≠ 0) ∨ (bs.getD 14 0).toNat < 1 ∨ 49 < (bs.getD 14 0).toNat then (noPg, 4)
  else if padB bs = true then (⟨numP (bs.drop 4), numP (bs.drop 8), (bs.getD 12 0).toNat, (bs.getD 13 0).toNat % 2 == 1, decide (2 ≤ (bs.getD 13 0).toNat), (bs.drop 15).take (bs.getD 14 0).toNat⟩, 0)
  else (noPg, 4)

theorem bits_all (m : UInt8) : (((if 0 < (m &&& 1).toNat then (1 : UInt8) else 0) ||| (if 0 < (m &&& 2).toNat then (2 : UInt8) else 0)) = m ↔ m.toNat ≤ 3) ∧
    (m.toNat ≤ 3 → decide (0 < (m &&& 1).toNat) = (m.toNat % 2 == 1) ∧ decide (0 < (m &&& 2).toNat) = decide (2 ≤ m.toNat)) ∧
    (m.toNat ≤ 3 → decide (0 < (m &&& 1).toNat) = false → decide (0 < (m &&& 2).toNat) = false → m.toNat = 0) := by
  have h : ∀ i : Fin 256, (((if 0 < ((⟨⟨i⟩⟩ : UInt8) &&& 1).toNat then (1 : UInt8) else 0) ||| (if 0 < ((⟨⟨i⟩⟩ : UInt8) &&& 2).toNat then (2 : UInt8) else 0)) = ⟨⟨i⟩⟩ ↔ (⟨⟨i⟩⟩ : UInt8).toNat ≤ 3) ∧
    ((⟨⟨i⟩⟩ : UInt8).toNat ≤ 3 → decide (0 < ((⟨⟨i⟩⟩ : UInt8) &&& 1).toNat) = ((⟨⟨i⟩⟩ : UInt8).toNat % 2 == 1) ∧ decide (0 < ((⟨⟨i⟩⟩ : UInt8) &&& 2).toNat) = decide (2 ≤ (⟨⟨i⟩⟩ : UInt8).toNat)) ∧
    ((⟨⟨i⟩⟩ : UInt8).toNat ≤ 3 → decide (0 < ((⟨⟨i⟩⟩ : UInt8) &&& 1).toNat) = false → decide (0 < ((⟨⟨i⟩⟩ : UInt8) &&& 2).toNat) = false → (⟨⟨i⟩⟩ : UInt8).toNat = 0) := by decide +kernel
  exact h m.toBitVec.toFin

theorem read_ref (bs : List UInt8) (hl : bs.length = 64) : readB bs = refRead bs := by
  obtain ⟨x, y, z, k, m, l, R, rfl, hR, hx, hy, hz⟩ := form bs hl
  by_cases hs : Summed (four x ++ (four y ++ (four z ++ ([k, m, l] ++ R))))
  · have hs2 : x = CrcP.sum (four y ++ (four z ++ ([k, m, l] ++ R))) := by
      have := hs
      unfold Summed at this
      rwa [form4, numP_four x hx] at this
    unfold readB refRead
    have hpad := padB_iff _ hl
    rw [form14] at hpad
    rw [if_neg (not_not_intro (show numP _ = CrcP.sum _ from hs)), if_neg (not_not_intro (show numP _ = CrcP.sum _ from hs)), form12, form13, form14, form15, form4, form8, numP_four y hy, numP_four z hz, parse_form x y z k m l R hy hz]
    obtain ⟨b1, b2, b3⟩ := bits_all m
    have e1 : layB (⟨y, z, k.toNat, decide (0 < (m &&& 1).toNat), decide (0 < (m &&& 2).toNat), R.take (min l.toNat 49)⟩ : Pg) = four x ++ (four y ++ (four z ++ ([k, m, l] ++ R))) ↔
        m.toNat ≤ 3 ∧ l.toNat ≤ 49 ∧ R.take (min l.toNat 49) ++ List.replicate (49 - min l.toNat 49) 0 = R := by
      have hlen : (R.take (min l.toNat 49)).length = min l.toNat 49 := by simp; omega
      have hm : marks (⟨y, z, k.toNat, decide (0 < (m &&& 1).toNat), decide (0 < (m &&& 2).toNat), R.take (min l.toNat 49)⟩ : Pg) = (if 0 < (m &&& 1).toNat then (1 : UInt8) else 0) ||| (if 0 < (m &&& 2).toNat then (2 : UInt8) else 0) := by
        unfold marks; simp
      have hb : bodyB (⟨y, z, k.toNat, decide (0 < (m &&& 1).toNat), decide (0 < (m &&& 2).toNat), R.take (min l.toNat 49)⟩ : Pg) = four y ++ (four z ++ ([k, (if 0 < (m &&& 1).toNat then (1 : UInt8) else 0) ||| (if 0 < (m &&& 2).toNat then (2 : UInt8) else 0), UInt8.ofNat (min l.toNat 49)] ++ (R.take (min l.toNat 49) ++ List.replicate (49 - min l.toNat 49) 0))) := by
        unfold bodyB
        rw [hm]
        simp only [hlen]
        simp
      have hl8 : UInt8.ofNat (min l.toNat 49) = l ↔ l.toNat ≤ 49 := by
        constructor
        · intro h
          have := congrArg UInt8.toNat h
          have h2 := l.toNat_lt
          simp at this
          omega
        · intro h
          rw [show min l.toNat 49 = l.toNat by omega]
          simp
      rw [← b1, ← hl8]
      unfold layB
      rw [hb]
      constructor
      · intro h
        have h2 := congrArg (List.drop 12) h
        have d : ∀ a b c : Nat, ∀ r : List UInt8, List.drop 12 (four a ++ (four b ++ (four c ++ r))) = r := fun _ _ _ _ => rfl
        rw [d, d] at h2
        simp only [List.cons_append, List.nil_append, List.cons.injEq, true_and] at h2
        exact h2
      · rintro ⟨h1, h2, h3⟩
        rw [h1, h2, h3, ← hs2]
    have e2 : R.take (min l.toNat 49) ++ List.replicate (49 - min l.toNat 49) 0 = R ↔ ∀ i, min l.toNat 49 ≤ i → i < 49 → R.getD i 0 = 0 := by
      constructor
      · intro h i h1 h2
        rw [← h, List.getD_eq_getElem?_getD, List.getElem?_append_right (by simp; omega), List.getElem?_replicate_of_lt (by simp; omega)]
        rfl
      · intro h
        refine List.ext_getElem? fun i => ?_
        by_cases h1 : i < min l.toNat 49
        · rw [List.getElem?_append_left (by simp; omega), List.getElem?_take_of_lt h1]
        · by_cases h2 : i < 49
          · rw [List.getElem?_append_right (by simp; omega), List.getElem?_replicate_of_lt (by simp; omega)]
            have := h i (by omega) h2
            rw [List.getD_eq_getElem?_getD, List.getElem?_eq_getElem (by omega)] at this
            rw [List.getElem?_eq_getElem (by omega)]
            simpa using this.symm
          · rw [List.getElem?_eq_none (by simp; omega), List.getElem?_eq_none (by omega)]
    have hlen : (R.take (min l.toNat 49)).length = min l.toNat 49 := by simp; omega
    by_cases hbad : k.toNat < 1 ∨ 2 < k.toNat ∨ 3 < m.toNat ∨ (k.toNat = 1 ∧ m.toNat ≠ 0) ∨ l.toNat < 1 ∨ 49 < l.toNat
    · rw [if_pos hbad, if_neg]
      · rfl
      · rintro ⟨h1, h2⟩
        obtain ⟨h3, h4, h5⟩ := e1.1 h2
        obtain ⟨h6, h7, h8⟩ := right_ki _ h1
        simp only [hlen] at h6 h7 h8
        have h9 := b3 h3
        rcases h6 with ⟨h6, ha, hb⟩ | h6
        · have := h9 ha hb; omega
        · omega
    · rw [if_neg hbad]
      have hg : ∀ i, 15 ≤ i → (four x ++ (four y ++ (four z ++ ([k, m, l] ++ R)))).getD i 0 = R.getD (i - 15) 0 := fun i hi => by
        have : ∀ i, (four x ++ (four y ++ (four z ++ ([k, m, l] ++ R)))).getD (i + 15) 0 = R.getD i 0 := fun i => rfl
        rw [← this, Nat.sub_add_cancel hi]
      by_cases hex : padB (four x ++ (four y ++ (four z ++ ([k, m, l] ++ R)))) = true
      · rw [if_pos hex]
        have hex := hpad.1 hex
        have hm3 : m.toNat ≤ 3 := by omega
        obtain ⟨f1, f2⟩ := b2 hm3
        rw [if_pos]
        · simp only [Prod.mk.injEq, and_true]
          rw [f1, f2, show min l.toNat 49 = l.toNat by omega]
        · refine ⟨right_of _ ⟨?_, by simp only [hlen]; omega, by simp only [hlen]; omega⟩, e1.2 ⟨hm3, by omega, e2.2 fun i h1 h2 => ?_⟩⟩
          · by_cases hk : k.toNat = 2
            · exact .inr (by show (k.toNat : Int) = 2; omega)
            · have hm0 : m = 0 := by
                have : m.toNat = 0 := by omega
                exact UInt8.toNat_inj.1 this
              subst hm0
              exact .inl ⟨by show (k.toNat : Int) = 1; omega, (show decide (0 < ((0 : UInt8) &&& 1).toNat) = false by decide), (show decide (0 < ((0 : UInt8) &&& 2).toNat) = false by decide)⟩
          · have := hex (i + 15) (by omega) (by omega)
            rwa [hg _ (by omega), show i + 15 - 15 = i by omega] at this
      · rw [if_neg hex, if_neg]
        · rfl
        · rintro ⟨_, h2⟩
          obtain ⟨h3, h4, h5⟩ := e1.1 h2
          refine hex (hpad.2 fun i h1 h2 => ?_)
          rw [hg i (by omega)]
          exact e2.1 h5 _ (by omega) (by omega)
  · rw [read_3 _ hs]
    unfold refRead
    rw [if_pos (show numP _ ≠ CrcP.sum _ from hs)]

/-- The sum made right. -/
def resum (bs : List UInt8) : List UInt8 := four (CrcP.sum (bs.drop 4)) ++ bs.drop 4

theorem resum_length (bs : List UInt8) (h : bs.length = 64) : (resum bs).length = 64 := by simp [resum, four_length, h]
theorem resum_drop (bs : List UInt8) : (resum bs).drop 4 = bs.drop 4 := by unfold resum; rw [List.drop_left' (four_length _)]
theorem resum_summed (bs : List UInt8) : Summed (resum bs) := by
  unfold Summed
  rw [resum_drop]
  unfold resum
  exact numP_four _ (CrcP.sum_lt _) _
theorem resum_of (bs : List UInt8) (h : 4 ≤ bs.length) (hs : Summed bs) : resum bs = bs := by
  unfold resum
  rw [← hs, four_numP _ h, List.take_append_drop]

theorem parse_lt (bs : List UInt8) : (parse bs).ep < 4294967296 ∧ (parse bs).nu < 4294967296 ∧ (parse bs).da.length ≤ 49 ∧ 0 ≤ (parse bs).ki ∧ (parse bs).ki < 256 := by
  refine ⟨numP_lt _, numP_lt _, by simp [parse]; omega, by simp [parse], ?_⟩
  show ((bs.getD 12 0).toNat : Int) < 256
  have := (bs.getD 12 0).toNat_lt
  omega

theorem lay_inj (p q : Pg) (hp : p.right = true) (hq : q.right = true) (h1 : p.ep < 4294967296) (h2 : p.nu < 4294967296) (h3 : q.ep < 4294967296) (h4 : q.nu < 4294967296) : layB p = layB q ↔ p = q := by
  constructor
  · intro h
    rw [← parse_lay p hp h1 h2, h, parse_lay q hq h3 h4]
  · rintro rfl; rfl

/-- A page's kind and size changed, the sum made right. -/
theorem heads (p : Pg) (hr : p.right = true) (he : p.ep < 4294967296) (hn : p.nu < 4294967296) (k l : UInt8) (q : Pg) (hq : readB (resum (((layB p).set 12 k).set 14 l)) = (q, 0)) :
    q.right = true ∧ q.ki = k.toNat ∧ q.da.length = l.toNat ∧ (q = p ↔ ((k.toNat : Int) = p.ki ∧ l.toNat = p.da.length)) := by
  obtain ⟨h1, h2, h3⟩ := right_ki p hr
  have hll := layB_length p h3
  generalize hB : resum (((layB p).set 12 k).set 14 l) = B at hq
  have hd : B.drop 4 = (((layB p).set 12 k).set 14 l).drop 4 := by rw [← hB, resum_drop]
  have hBl : B.length = 64 := by rw [← hB]; exact resum_length _ (by simpa using hll)
  have hBs : Summed B := by rw [← hB]; exact resum_summed _
  have hget : ∀ i, 4 ≤ i → i < 64 → B.getD i 0 = (((layB p).set 12 k).set 14 l).getD i 0 := fun i hi h64 => by
    have := congrArg (fun x => x.getD (i - 4) 0) hd
    simp only [List.getD_eq_getElem?_getD, List.getElem?_drop, show 4 + (i - 4) = i by omega] at this
    simpa only [List.getD_eq_getElem?_getD] using this
  have h12 : B.getD 12 0 = k := by
    rw [hget 12 (by omega) (by omega), List.getD_eq_getElem?_getD, List.getElem?_set_ne (by omega), List.getElem?_set_self (by omega)]; rfl
  have h14 : B.getD 14 0 = l := by
    rw [hget 14 (by omega) (by omega), List.getD_eq_getElem?_getD, List.getElem?_set_self (by simp; omega)]; rfl
  rcases read_cases B hBs with h | ⟨h, hr2, hb⟩
  · rw [h] at hq; cases hq
  · rw [h] at hq
    obtain rfl : parse B = q := by injection hq
    have hki : (parse B).ki = k.toNat := by show ((B.getD 12 0).toNat : Int) = _; rw [h12]
    have hda : (parse B).da.length = l.toNat := by
      have e : B.getD 14 0 = UInt8.ofNat (parse B).da.length := by
        conv => lhs; rw [← hb, layB_form]
        rw [form14]
      rw [h14] at e
      have h5 := (right_ki _ hr2).2.2
      rw [e]; simp; omega
    refine ⟨hr2, hki, hda, ?_, ?_⟩
    · intro e
      rw [← hki, ← hda, e]
      exact ⟨rfl, rfl⟩
    · rintro ⟨e1, e2⟩
      have k12 : (layB p)[12]? = some k := by
        have : (layB p).getD 12 0 = UInt8.ofNat p.ki.toNat := by rw [layB_form, form12]
        rw [List.getD_eq_getElem?_getD, List.getElem?_eq_getElem (by omega)] at this
        rw [List.getElem?_eq_getElem (by omega)]
        congr 1
        rw [show (layB p)[12] = UInt8.ofNat p.ki.toNat from this, ← e1]; simp
      have k14 : (layB p)[14]? = some l := by
        have : (layB p).getD 14 0 = UInt8.ofNat p.da.length := by rw [layB_form, form14]
        rw [List.getD_eq_getElem?_getD, List.getElem?_eq_getElem (by omega)] at this
        rw [List.getElem?_eq_getElem (by omega)]
        congr 1
        rw [show (layB p)[14] = UInt8.ofNat p.da.length from this, ← e2]; simp
      have s : ((layB p).set 12 k).set 14 l = layB p := by
        refine List.ext_getElem? fun i => ?_
        rw [List.getElem?_set, List.getElem?_set]
        split
        · rename_i h; subst h; rw [if_pos (by simp; omega), k14]
        · split
          · rename_i h; subst h; rw [if_pos (by omega), k12]
          · rfl
      have : B = layB p := by rw [← hB, s, resum_of _ (by omega) (lay_summed p)]
      rw [this, parse_lay p hr he hn]
end Go.Proofs.Ytmaaljfcnnlnpaa
