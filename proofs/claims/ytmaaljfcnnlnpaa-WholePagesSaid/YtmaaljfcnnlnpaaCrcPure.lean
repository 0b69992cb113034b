/-
  CRC-32C over lists of bytes, as plain numbers: the sum of a text is one linear map of the text read as a number. Nothing of the program is named here.
-/
namespace Go.Proofs.Ytmaaljfcnnlnpaa.CrcP

def poly : Nat := 2197175160
def M : Nat := 4294967295

/-- One bit's step. -/
def turn (r : Nat) : Nat := if r % 2 = 1 then (r / 2) ^^^ poly else r / 2
def turnN : Nat → Nat → Nat
  | 0, r => r
  | n + 1, r => turnN n (turn r)
def tab (i : Nat) : Nat := turnN 8 i
def step (r b : Nat) : Nat := (r / 256) ^^^ tab ((r % 256) ^^^ b)
def run (r : Nat) (l : List UInt8) : Nat := l.foldl (fun r b => step r b.toNat) r
def more (sum : Nat) (l : List UInt8) : Nat := run (sum ^^^ M) l ^^^ M
def sum (l : List UInt8) : Nat := more 0 l

/-- The text as a number, the first byte the lowest. -/
def num : List UInt8 → Nat
  | [] => 0
  | b :: l => b.toNat + 256 * num l

theorem turnN_add (a b r : Nat) : turnN (a + b) r = turnN b (turnN a r) := by
  induction a generalizing r with
  | zero => simp [turnN]
  | succ a ih => rw [Nat.succ_add]; exact ih _

theorem xor_div2 (a b : Nat) : (a ^^^ b) / 2 = (a / 2) ^^^ (b / 2) := by
  apply Nat.eq_of_testBit_eq
  intro i
  simp [Nat.testBit_div_two, Nat.testBit_xor]

theorem xor_mod2 (a b : Nat) : (a ^^^ b) % 2 = (a + b) % 2 := by
  have h := Nat.xor_mod_two_pow (a := a) (b := b) (n := 1)
  rw [show (2 ^ 1 : Nat) = 2 from rfl] at h
  rw [h]
  rcases Nat.mod_two_eq_zero_or_one a with ha | ha <;> rcases Nat.mod_two_eq_zero_or_one b with hb | hb <;> rw [ha, hb] <;> simp <;> omega

theorem turn_eq (r : Nat) : turn r = (r / 2) ^^^ (if r % 2 = 1 then poly else 0) := by
  unfold turn
  split <;> simp

theorem turn_xor (a b : Nat) : turn (a ^^^ b) = turn a ^^^ turn b := by
  rw [turn_eq, turn_eq, turn_eq, xor_div2, xor_mod2]
  rcases Nat.mod_two_eq_zero_or_one a with ha | ha <;> rcases Nat.mod_two_eq_zero_or_one b with hb | hb
  · rw [if_neg (by omega), if_neg (by omega), if_neg (by omega)]; simp
  · rw [if_pos (by omega), if_neg (by omega), if_pos (by omega)]; simp [Nat.xor_assoc]
  · rw [if_pos (by omega), if_pos (by omega), if_neg (by omega)]
    simp only [Nat.xor_zero]
    rw [Nat.xor_assoc, Nat.xor_assoc, Nat.xor_comm poly]
  · rw [if_neg (by omega), if_pos (by omega), if_pos (by omega)]
    rw [Nat.xor_zero, Nat.xor_assoc, ← Nat.xor_assoc poly, Nat.xor_comm poly, Nat.xor_assoc, Nat.xor_self, Nat.xor_zero]

theorem turnN_xor (n : Nat) : ∀ a b, turnN n (a ^^^ b) = turnN n a ^^^ turnN n b := by
  induction n with
  | zero => intro a b; rfl
  | succ n ih => intro a b; show turnN n (turn (a ^^^ b)) = _; rw [turn_xor, ih]; rfl

theorem turn_double (x : Nat) : turn (2 * x) = x := by
  unfold turn
  rw [if_neg (by omega)]; omega

theorem turnN_shift (n x : Nat) : turnN n (2 ^ n * x) = x := by
  induction n generalizing x with
  | zero => simp [turnN]
  | succ n ih =>
    show turnN n (turn (2 ^ (n + 1) * x)) = x
    rw [show 2 ^ (n + 1) * x = 2 * (2 ^ n * x) by rw [Nat.pow_succ]; rw [Nat.mul_comm (2 ^ n) 2, Nat.mul_assoc]]
    rw [turn_double]; exact ih x

theorem turnN_zero (n : Nat) : turnN n 0 = 0 := by simpa using turnN_shift n 0

theorem turn_lt (r : Nat) (h : r < 4294967296) : turn r < 4294967296 := by
  unfold turn
  split
  · exact Nat.xor_lt_two_pow (n := 32) (by omega) (by decide)
  · omega

theorem turnN_lt (n : Nat) : ∀ r, r < 4294967296 → turnN n r < 4294967296 := by
  induction n with
  | zero => intro r h; exact h
  | succ n ih => intro r h; exact ih _ (turn_lt r h)

theorem turn_zero (r : Nat) (h : r < 4294967296) (h0 : turn r = 0) : r = 0 := by
  unfold turn at h0
  split at h0
  · have h1 : r / 2 = poly := by
      have := congrArg (· ^^^ poly) h0
      simpa [Nat.xor_assoc] using this
    unfold poly at h1; omega
  · omega

theorem turnN_zero_iff (n : Nat) : ∀ r, r < 4294967296 → turnN n r = 0 → r = 0 := by
  induction n with
  | zero => intro r _ h; exact h
  | succ n ih => intro r h h0; exact turn_zero r h (ih _ (turn_lt r h) h0)

/-- Splitting off the low byte. -/
theorem split_byte (x : Nat) : x = (256 * (x / 256)) ^^^ (x % 256) := by
  apply Nat.eq_of_testBit_eq
  intro i
  rw [Nat.testBit_xor]
  have e1 : 256 * (x / 256) = (x / 2 ^ 8) * 2 ^ 8 := by omega
  have e2 : x % 256 = x % 2 ^ 8 := rfl
  rw [e1, e2, Nat.testBit_mul_two_pow, Nat.testBit_mod_two_pow, Nat.testBit_div_two_pow]
  by_cases h : i < 8
  · have : ¬ 8 ≤ i := by omega
    simp [h, this]
  · have h8 : 8 ≤ i := by omega
    simp [h, h8]

theorem turn8 (x : Nat) : turnN 8 x = (x / 256) ^^^ tab (x % 256) := by
  conv => lhs; rw [split_byte x]
  rw [turnN_xor]
  have := turnN_shift 8 (x / 256)
  rw [show (2 ^ 8 : Nat) = 256 from rfl] at this
  rw [this]; rfl

theorem xor_mod256 (a b : Nat) (hb : b < 256) : (a ^^^ b) % 256 = (a % 256) ^^^ b := by
  have h := Nat.xor_mod_two_pow (a := a) (b := b) (n := 8)
  rw [show (2 ^ 8 : Nat) = 256 from rfl] at h
  rw [h, Nat.mod_eq_of_lt hb]

theorem xor_div256 (a b : Nat) (hb : b < 256) : (a ^^^ b) / 256 = a / 256 := by
  have h := Nat.xor_div_two_pow (a := a) (b := b) (n := 8)
  rw [show (2 ^ 8 : Nat) = 256 from rfl] at h
  rw [h, Nat.div_eq_of_lt hb, Nat.xor_zero]

theorem step_eq (r b : Nat) (hb : b < 256) : step r b = turnN 8 (r ^^^ b) := by
  rw [turn8, xor_mod256 r b hb, xor_div256 r b hb]; rfl

theorem add_eq_xor (b m : Nat) (hb : b < 256) : b + 256 * m = b ^^^ (256 * m) := by
  have h := split_byte (b + 256 * m)
  rw [show (b + 256 * m) / 256 = m by omega, show (b + 256 * m) % 256 = b by omega] at h
  rw [h, Nat.xor_comm]

theorem run_eq (l : List UInt8) : ∀ r, run r l = turnN (8 * l.length) (r ^^^ num l) := by
  induction l with
  | nil => intro r; simp [run, num, turnN]
  | cons b l ih =>
    intro r
    have hb : b.toNat < 256 := b.toNat_lt
    show run (step r b.toNat) l = _
    rw [ih, step_eq r _ hb]
    show _ = turnN (8 * (l.length + 1)) (r ^^^ (b.toNat + 256 * num l))
    rw [show 8 * (l.length + 1) = 8 + 8 * l.length by omega, turnN_add, add_eq_xor _ _ hb, ← Nat.xor_assoc, turnN_xor 8 (r ^^^ b.toNat)]
    have := turnN_shift 8 (num l)
    rw [show (2 ^ 8 : Nat) = 256 from rfl] at this
    rw [this]

theorem more_eq (s : Nat) (l : List UInt8) : more s l = turnN (8 * l.length) (s ^^^ M ^^^ num l) ^^^ M := by
  unfold more; rw [run_eq]

theorem num_lt (l : List UInt8) : num l < 2 ^ (8 * l.length) := by
  induction l with
  | nil => simp [num]
  | cons b l ih =>
    have hb : b.toNat < 256 := b.toNat_lt
    show b.toNat + 256 * num l < 2 ^ (8 * (l.length + 1))
    rw [show 8 * (l.length + 1) = 8 * l.length + 8 by omega, Nat.pow_add]
    have : (2 : Nat) ^ 8 = 256 := rfl
    omega

theorem num_inj : ∀ (a b : List UInt8), a.length = b.length → num a = num b → a = b
  | [], [], _, _ => rfl
  | x :: a, y :: b, hl, h => by
    have hx : x.toNat < 256 := x.toNat_lt
    have hy : y.toNat < 256 := y.toNat_lt
    simp only [num] at h
    have h1 : x.toNat = y.toNat := by omega
    have h2 : num a = num b := by omega
    rw [num_inj a b (by simpa using hl) h2, UInt8.toNat_inj.1 h1]
  | [], _ :: _, hl, _ => by simp at hl
  | _ :: _, [], hl, _ => by simp at hl

theorem step_lt (r b : Nat) (h : r < 4294967296) (hb : b < 256) : step r b < 4294967296 := by
  rw [step_eq r b hb]; exact turnN_lt _ _ (Nat.xor_lt_two_pow (n := 32) h (by omega))

theorem run_lt (l : List UInt8) : ∀ r, r < 4294967296 → run r l < 4294967296 := by
  induction l with
  | nil => intro r h; exact h
  | cons b l ih => intro r h; exact ih _ (step_lt r _ h b.toNat_lt)

theorem more_lt (s : Nat) (l : List UInt8) (h : s < 4294967296) : more s l < 4294967296 :=
  Nat.xor_lt_two_pow (n := 32) (run_lt l _ (Nat.xor_lt_two_pow (n := 32) h (by decide))) (by decide)

theorem sum_lt (l : List UInt8) : sum l < 4294967296 := more_lt 0 l (by decide)

theorem run_append (r : Nat) (s t : List UInt8) : run r (s ++ t) = run (run r s) t := by unfold run; rw [List.foldl_append]

theorem more_more (x : Nat) (s t : List UInt8) : more (more x s) t = more x (s ++ t) := by
  unfold more
  rw [run_append, Nat.xor_assoc (run (x ^^^ M) s), Nat.xor_self, Nat.xor_zero]

theorem more_nil (x : Nat) : more x [] = x := by unfold more run; simp [Nat.xor_assoc]

/-- Sums of two texts of one length are alike just where the linear map takes their difference to 0. -/
theorem xor_cancel_left (a b c : Nat) : a ^^^ b = a ^^^ c ↔ b = c := by
  constructor
  · intro h
    have := congrArg (a ^^^ ·) h
    simpa [← Nat.xor_assoc] using this
  · rintro rfl; rfl

theorem sum_eq_iff (a b : List UInt8) (h : a.length = b.length) : sum a = sum b ↔ turnN (8 * a.length) (num a ^^^ num b) = 0 := by
  unfold sum
  rw [more_eq, more_eq, ← h, Nat.xor_comm (turnN _ _) M, Nat.xor_comm (turnN _ (_ ^^^ num b)) M, xor_cancel_left, turnN_xor _ _ (num a), turnN_xor _ _ (num b), xor_cancel_left, turnN_xor]
  generalize turnN (8 * a.length) (num a) = x
  generalize turnN (8 * a.length) (num b) = y
  rw [← xor_cancel_left y x y, Nat.xor_self, Nat.xor_comm]

/-- A difference of up to 32 bits that stand one behind the other is no difference of sums alone where it is none. -/
theorem sum_burst (a b : List UInt8) (h : a.length = b.length) (k v : Nat) (hk : k ≤ 8 * a.length) (hv : v < 4294967296) (hx : num a ^^^ num b = 2 ^ k * v) :
    sum a = sum b ↔ a = b := by
  rw [sum_eq_iff a b h, hx]
  constructor
  · intro e
    rw [show 8 * a.length = k + (8 * a.length - k) by omega, turnN_add, turnN_shift] at e
    have hv0 := turnN_zero_iff _ v hv e
    rw [hv0, Nat.mul_zero] at hx
    refine num_inj a b h ?_
    have := congrArg (num a ^^^ ·) hx
    simp only [← Nat.xor_assoc, Nat.xor_self, Nat.zero_xor, Nat.xor_zero] at this
    exact this.symm
  · rintro rfl
    rw [Nat.xor_self] at hx
    rw [← hx, turnN_zero]

end Go.Proofs.Ytmaaljfcnnlnpaa.CrcP
