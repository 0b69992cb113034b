/-
  A scan of a log's pages, over lists. Nothing of the program is named here.
-/
import Derived.Test.YtmaaljfcnnlnpaaFragPure
namespace Go.Proofs.Ytmaaljfcnnlnpaa

/-- A segment's head's data. -/
def headB (i : Nat) : List UInt8 := [UInt8.ofNat (i / 16 % 256), UInt8.ofNat (i / 16 / 256 % 256), UInt8.ofNat (i / 16 / 65536 % 256), UInt8.ofNat (i / 16 / 16777216 % 256)]

/-- A scan under way. -/
structure Sc where
  jn : Jn
  recs : List (Nat × List UInt8)
  at_ : Nat
  next : Nat
  ep : Nat
  br : Bool

def Sc.zero : Sc := ⟨Jn.zero, [], 0, 0, 0, false⟩

def Sc.stands (s : Sc) (i : Nat) (p : Pg) : Bool :=
  if p.nu = i ∧ s.ep ≤ p.ep then (if i % 16 = 0 then p.ki == 1 && p.da == headB i else p.ki == 2) else false

def Sc.atOf (s : Sc) (i : Nat) (p : Pg) : Nat := if p.ki = 2 ∧ s.jn.be = false then i else s.at_

def Sc.took (s : Sc) (i : Nat) (p : Pg) : Sc :=
  if (s.jn.take p).2.2.2 = 0 then
    { jn := (s.jn.take p).1, recs := if (s.jn.take p).2.2.1 then s.recs ++ [(s.atOf i p, (s.jn.take p).2.1)] else s.recs, at_ := s.atOf i p, next := if (s.jn.take p).1.be then s.atOf i p else i + 1, ep := p.ep, br := false }
  else { s with jn := (s.jn.take p).1, at_ := s.atOf i p, next := if s.jn.be then s.atOf i p else s.next, br := true }

/-- One sector's page. -/
def Sc.one (s : Sc) (i : Nat) : Option Pg → Sc
  | none => { s with br := true }
  | some p => if s.br = false ∧ s.stands i p = true then s.took i p else { s with br := true }

theorem one_none (s : Sc) (i : Nat) : s.one i none = { s with br := true } := rfl
theorem one_br (s : Sc) (i : Nat) (r : Option Pg) (h : s.br = true) : s.one i r = s := by
  have e : ({ s with br := true } : Sc) = s := by cases s; simp_all
  cases r with
  | none => exact e
  | some p =>
    show (if s.br = false ∧ s.stands i p = true then s.took i p else { s with br := true }) = s
    rw [if_neg (by rw [h]; simp)]
    exact e
theorem one_not (s : Sc) (i : Nat) (p : Pg) (h : s.stands i p = false) : s.one i (some p) = { s with br := true } := by
  show (if s.br = false ∧ s.stands i p = true then s.took i p else { s with br := true }) = _
  rw [if_neg (by rw [h]; simp)]
theorem one_yes (s : Sc) (i : Nat) (p : Pg) (hb : s.br = false) (h : s.stands i p = true) : s.one i (some p) = s.took i p := by
  show (if s.br = false ∧ s.stands i p = true then s.took i p else { s with br := true }) = _
  rw [if_pos ⟨hb, h⟩]
theorem stands_ep (s : Sc) (i : Nat) (p : Pg) (h : p.ep < s.ep) : s.stands i p = false := by
  unfold Sc.stands
  rw [if_neg (by omega)]

/-- A page that is none, or whose epoch is lower, breaks the chain. -/
theorem one_stale (s : Sc) (i : Nat) (r : Option Pg) (h : ∀ p, r = some p → p.ep < s.ep) : s.one i r = { s with br := true } := by
  cases r with
  | none => rfl
  | some p => exact one_not s i p (stands_ep s i p (h p rfl))

theorem one_recs (s : Sc) (i : Nat) (r : Option Pg) : ∃ l, (s.one i r).recs = s.recs ++ l := by
  cases r with
  | none => exact ⟨[], by simp [Sc.one]⟩
  | some p =>
    show ∃ l, (if s.br = false ∧ s.stands i p = true then s.took i p else { s with br := true }).recs = s.recs ++ l
    split
    · unfold Sc.took
      split
      · simp only
        split
        · exact ⟨_, rfl⟩
        · exact ⟨[], by simp⟩
      · exact ⟨[], by simp⟩
    · exact ⟨[], by simp⟩

/-- The states of a scan, from one on. -/
def go (c : Nat → Option Pg) (s : Sc) (n : Nat) : Nat → Sc
  | 0 => s
  | m + 1 => (go c s n m).one (n + m) (c (n + m))

theorem go_congr {c c' : Nat → Option Pg} (s : Sc) (n : Nat) : ∀ m, (∀ i, n ≤ i → i < n + m → c i = c' i) → go c s n m = go c' s n m
  | 0, _ => rfl
  | m + 1, h => by
    unfold go
    rw [go_congr s n m (fun i h1 h2 => h i h1 (by omega)), h (n + m) (by omega) (by omega)]

theorem go_add (c : Nat → Option Pg) (s : Sc) (n k : Nat) : ∀ m, go c (go c s n k) (n + k) m = go c s n (k + m)
  | 0 => rfl
  | m + 1 => by
    show (go c (go c s n k) (n + k) m).one (n + k + m) (c (n + k + m)) = (go c s n (k + m)).one (n + (k + m)) (c (n + (k + m)))
    rw [go_add c s n k m, Nat.add_assoc]

theorem go_br (c : Nat → Option Pg) (s : Sc) (n : Nat) (h : s.br = true) : ∀ m, go c s n m = s
  | 0 => rfl
  | m + 1 => by
    show (go c s n m).one (n + m) (c (n + m)) = s
    rw [go_br c s n h m, one_br _ _ _ h]

theorem go_recs (c : Nat → Option Pg) (s : Sc) (n k : Nat) : ∀ m, ∃ l, (go c s n (k + m)).recs = (go c s n k).recs ++ l
  | 0 => ⟨[], by simp⟩
  | m + 1 => by
    obtain ⟨l, hl⟩ := go_recs c s n k m
    obtain ⟨l2, hl2⟩ := one_recs (go c s n (k + m)) (n + (k + m)) (c (n + (k + m)))
    exact ⟨l ++ l2, by
      show ((go c s n (k + m)).one (n + (k + m)) (c (n + (k + m)))).recs = _
      rw [hl2, hl, List.append_assoc]⟩

theorem go_recs_le (c : Nat → Option Pg) (s : Sc) (n k m : Nat) (h : k ≤ m) : ∃ l, (go c s n m).recs = (go c s n k).recs ++ l := by
  have := go_recs c s n k (m - k)
  rwa [show k + (m - k) = m by omega] at this

/-- What stands behind a log's end: nothing of it is told, and it doesn't move the end. -/
def Tail (c : Nat → Option Pg) (s : Sc) (n P E : Nat) : Prop :=
  ∀ m, n + m ≤ P → (go c s n m).recs = s.recs ∧ (go c s n m).next = n ∧ ((go c s n m).br = true ∨ m = 0 ∨ ((go c s n m).jn.be = true ∧ (go c s n m).at_ = n ∧ (go c s n m).jn.ep < E))

/-- A log of so many pages: where its end is, and the scan up to there. -/
structure Good (c : Nat → Option Pg) (P E n : Nat) (s : Sc) : Prop where
  at_ : go c Sc.zero 0 n = s
  br : s.br = false
  jn : s.jn = Jn.zero
  next : s.next = n
  le : n ≤ P
  ep : s.ep < E
  tail : Tail c s n P E
  low : ∀ i p, i < P → c i = some p → p.ep < E

theorem Good.end_ {c : Nat → Option Pg} {P E n : Nat} {s : Sc} (h : Good c P E n s) : (go c Sc.zero 0 P).recs = s.recs ∧ (go c Sc.zero 0 P).next = n := by
  have t := h.tail (P - n) (by have := h.le; omega)
  have e := go_add c Sc.zero 0 n (P - n)
  rw [h.at_, Nat.zero_add, show n + (P - n) = P by have := h.le; omega] at e
  rw [← e]
  exact ⟨t.1, t.2.1⟩

/-- A page of another epoch, where a record is begun. -/
theorem took_other (s : Sc) (i : Nat) (p : Pg) (hb : s.jn.be = true) (he : s.jn.ep ≠ p.ep) (_ : s.br = false) :
    (s.took i p).recs = s.recs ∧ (s.took i p).next = s.at_ ∧ ((s.took i p).br = true ∨ (s.took i p).br = false ∧ (s.took i p).jn = s.jn ∧ (s.took i p).at_ = s.at_ ∧ (s.took i p).ep = p.ep) := by
  have ha : s.atOf i p = s.at_ := by unfold Sc.atOf; rw [if_neg (by rw [hb]; simp)]
  have hf : s.jn.fits p = false := by
    unfold Jn.fits
    rw [hb]
    cases hfi : p.fi
    · have : (p.ep == s.jn.ep) = false := by simp; omega
      simp [this]
    · simp
  unfold Sc.took
  rw [ha]
  unfold Jn.take
  by_cases hr : p.right = true
  · rw [if_pos hr]
    by_cases hk : p.ki = 2
    · rw [if_pos hk, hf]
      simp [hb]
    · rw [if_neg hk]
      simp [hb]
  · rw [if_neg hr]
    simp [hb]

/-- Where some of the pages behind a log's end are of a new epoch, the first of them not, the end stands. -/
theorem mixed {c c' : Nat → Option Pg} {P E n : Nat} {s : Sc} (h : Good c P E n s) (h0 : n < P → c' n = c n) (hm : ∀ i, n < i → i < P → c' i = c i ∨ ∃ p, c' i = some p ∧ p.ep = E) :
    ∀ m, n + m ≤ P → (go c' s n m).recs = s.recs ∧ (go c' s n m).next = n ∧ (go c' s n m = go c s n m ∨ (go c' s n m).br = true ∨
      (m ≠ 0 ∧ (go c' s n m).br = false ∧ (go c' s n m).jn.be = true ∧ (go c' s n m).at_ = n ∧ (go c' s n m).jn.ep < E ∧ (go c' s n m).ep = E))
  | 0, _ => ⟨rfl, h.next, .inl rfl⟩
  | m + 1, hle => by
    obtain ⟨hr, hn, hc⟩ := mixed h h0 hm m (by omega)
    have ht := h.tail m (by omega)
    have ht1 := h.tail (m + 1) hle
    have e : go c' s n (m + 1) = (go c' s n m).one (n + m) (c' (n + m)) := rfl
    have e2 : go c s n (m + 1) = (go c s n m).one (n + m) (c (n + m)) := rfl
    by_cases hbr : (go c' s n m).br = true
    · rw [e, one_br _ _ _ hbr]
      exact ⟨hr, hn, .inr (.inl hbr)⟩
    have hbr : (go c' s n m).br = false := by simpa using hbr
    rcases hc with hc | hc | hc
    · by_cases hs : c' (n + m) = c (n + m)
      · rw [e, hs, hc, ← e2]
        exact ⟨ht1.1, ht1.2.1, .inl rfl⟩
      · have hm0 : m ≠ 0 := fun hm0 => by subst hm0; exact hs (h0 (by omega))
        obtain ⟨p, hp, hpe⟩ : ∃ p, c' (n + m) = some p ∧ p.ep = E := by
          rcases hm (n + m) (by omega) (by omega) with h1 | h1
          · exact absurd h1 hs
          · exact h1
        rw [hc] at hbr
        rcases ht.2.2 with h1 | h1 | ⟨h1, h2, h3⟩
        · rw [h1] at hbr; cases hbr
        · exact absurd h1 hm0
        · rw [e, hp, hc]
          rcases Bool.eq_false_or_eq_true ((go c s n m).stands (n + m) p) with hst | hst
          · rw [one_yes _ _ _ hbr hst]
            obtain ⟨k1, k2, k3⟩ := took_other (go c s n m) (n + m) p h1 (by omega) hbr
            rw [k1, k2]
            refine ⟨ht.1, h2, ?_⟩
            rcases k3 with k3 | ⟨k3, k4, k5, k6⟩
            · exact .inr (.inl k3)
            · refine .inr (.inr ⟨by omega, k3, ?_, ?_, ?_, ?_⟩)
              · rw [k4]; exact h1
              · rw [k5]; exact h2
              · rw [k4]; exact h3
              · rw [k6]; exact hpe
          · rw [one_not _ _ _ hst]
            exact ⟨ht.1, ht.2.1, .inr (.inl rfl)⟩
    · rw [hc] at hbr; cases hbr
    · obtain ⟨c0, c1, c2, c3, c4, c5⟩ := hc
      by_cases hold : ∃ p, c' (n + m) = some p ∧ p.ep = E
      · obtain ⟨p, hp, hpe⟩ := hold
        rw [e, hp]
        rcases Bool.eq_false_or_eq_true ((go c' s n m).stands (n + m) p) with hst | hst
        · rw [one_yes _ _ _ hbr hst]
          obtain ⟨k1, k2, k3⟩ := took_other (go c' s n m) (n + m) p c2 (by omega) hbr
          rw [k1, k2]
          refine ⟨hr, c3, ?_⟩
          rcases k3 with k3 | ⟨k3, k4, k5, k6⟩
          · exact .inr (.inl k3)
          · refine .inr (.inr ⟨by omega, k3, ?_, ?_, ?_, ?_⟩)
            · rw [k4]; exact c2
            · rw [k5]; exact c3
            · rw [k4]; exact c4
            · rw [k6]; exact hpe
        · rw [one_not _ _ _ hst]
          exact ⟨hr, hn, .inr (.inl rfl)⟩
      · have hcc : c' (n + m) = c (n + m) := by
          rcases hm (n + m) (by omega) (by omega) with h1 | h1
          · exact h1
          · exact absurd h1 hold
        rw [e, hcc, one_stale _ _ _ (fun p hp => by have := h.low (n + m) p (by omega) hp; omega)]
        exact ⟨hr, hn, .inr (.inl rfl)⟩

/-- The pages of the epoch E that stand behind n, k of them, and where what is begun there begins. -/
structure RunAt (E : Nat) (c : Nat → Option Pg) (s : Sc) (n k a : Nat) : Prop where
  ge : n ≤ a
  le : a ≤ n + k
  base : (go c s n (a - n)).br = false ∧ (go c s n (a - n)).jn = Jn.zero ∧ (go c s n (a - n)).next = a ∧ (go c s n (a - n)).ep ≤ E ∧ (go c s n (a - n)).recs = (go c s n k).recs
  mid : ∀ m, a < n + m → m ≤ k → (go c s n m).br = false ∧ (go c s n m).jn.be = true ∧ (go c s n m).at_ = a ∧ (go c s n m).next = a ∧ (go c s n m).jn.ep = E ∧ (go c s n m).ep = E ∧ (go c s n m).recs = (go c s n k).recs
  top : 0 < k → (go c s n k).ep = E

theorem RunAt.start {c : Nat → Option Pg} {P E n : Nat} {s : Sc} (h : Good c P E n s) (c' : Nat → Option Pg) : RunAt E c' s n 0 n := by
  refine ⟨Nat.le_refl _, Nat.le_refl _, ?_, fun m h1 h2 => by omega, fun h => by omega⟩
  rw [Nat.sub_self]
  exact ⟨h.br, h.jn, h.next, Nat.le_of_lt h.ep, rfl⟩

theorem RunAt.br {E : Nat} {c : Nat → Option Pg} {s : Sc} {n k a : Nat} (h : RunAt E c s n k a) : (go c s n k).br = false := by
  by_cases ha : a < n + k
  · exact (h.mid k ha (Nat.le_refl _)).1
  · have := h.base.1
    have hl := h.le
    rwa [show a - n = k by omega] at this

theorem RunAt.congr {E : Nat} {c c' : Nat → Option Pg} {s : Sc} {n k a : Nat} (h : RunAt E c s n k a) (hc : ∀ i, n ≤ i → i < n + k → c i = c' i) : RunAt E c' s n k a := by
  have e : ∀ m, m ≤ k → go c s n m = go c' s n m := fun m hm => go_congr s n m (fun i h1 h2 => hc i h1 (by omega))
  have hl := h.le
  have ek := e k (Nat.le_refl _)
  refine ⟨h.ge, h.le, ?_, fun m h1 h2 => ?_, ?_⟩
  · have := h.base
    rw [e _ (by omega), ek] at this
    exact this
  · have := h.mid m h1 h2
    rw [e m h2, ek] at this
    exact this
  · have := h.top
    rwa [ek] at this

/-- What is read of a log of which the first pages of the new epoch are kept. -/
theorem kept_good {c c' : Nat → Option Pg} {P E n k a : Nat} {s : Sc} (h : Good c P E n s) (hr : RunAt E c' s n k a) (hP : n + k ≤ P) (hl : ∀ i, i < n → c' i = c i) (hk : n + k < P → c' (n + k) = c (n + k))
    (hm : ∀ i, i < P → c' i = c i ∨ ∃ p, c' i = some p ∧ p.ep = E) : ∃ n' s', Good c' P (E + 1) n' s' ∧ s'.recs = (go c' s n k).recs := by
  have h0 : go c' Sc.zero 0 n = s := by rw [← h.at_]; exact (go_congr _ _ _ (fun i _ h2 => (hl i (by omega)).symm)).symm
  have hlow : ∀ i p, i < P → c' i = some p → p.ep < E + 1 := fun i p hi hp => by
    rcases hm i hi with h1 | ⟨q, h1, h2⟩
    · have := h.low i p hi (by rw [← h1]; exact hp); omega
    · rw [hp] at h1; cases h1; omega
  by_cases hk0 : k = 0
  · subst hk0
    have hM := mixed h (fun h2 => hk h2) (fun i h1 h2 => hm i h2)
    refine ⟨n, s, ⟨h0, h.br, h.jn, h.next, h.le, Nat.lt_succ_of_lt h.ep, fun m hle => ?_, hlow⟩, rfl⟩
    obtain ⟨k1, k2, k3⟩ := hM m hle
    refine ⟨k1, k2, ?_⟩
    rcases k3 with k3 | k3 | k3
    · rw [k3]
      rcases (h.tail m hle).2.2 with h1 | h1 | ⟨h1, h2, h3⟩
      · exact .inl h1
      · exact .inr (.inl h1)
      · exact .inr (.inr ⟨h1, h2, by omega⟩)
    · exact .inl k3
    · exact .inr (.inr ⟨k3.2.2.1, k3.2.2.2.1, by omega⟩)
  · have hge := hr.ge
    have hle := hr.le
    obtain ⟨b1, b2, b3, b4, b5⟩ := hr.base
    have hs' : go c' Sc.zero 0 a = go c' s n (a - n) := by
      have e := go_add c' Sc.zero 0 n (a - n)
      rw [h0, Nat.zero_add, show n + (a - n) = a by omega] at e
      exact e.symm
    have hgo : ∀ m, go c' (go c' s n (a - n)) a m = go c' s n (a - n + m) := fun m => by
      have e := go_add c' s n (a - n) m
      rwa [show n + (a - n) = a by omega] at e
    -- behind the kept pages the chain is broken
    have hend : ∀ m, n + m ≤ P → k < m → go c' s n m = { go c' s n k with br := true } := by
      intro m hmP hkm
      have e1 : go c' s n (k + 1) = { go c' s n k with br := true } := by
        show (go c' s n k).one (n + k) (c' (n + k)) = _
        rw [hk (by omega)]
        exact one_stale _ _ _ (fun p hp => by
          have := h.low (n + k) p (by omega) hp
          have := hr.top (by omega)
          omega)
      have e2 := go_add c' s n (k + 1) (m - (k + 1))
      rw [e1, go_br _ _ _ rfl, show k + 1 + (m - (k + 1)) = m by omega] at e2
      exact e2.symm
    have hmid : ∀ m, a < n + m → m ≤ k → _ := hr.mid
    refine ⟨a, go c' s n (a - n), ⟨hs', b1, b2, b3, by omega, by omega, fun m hmP => ?_, hlow⟩, b5⟩
    rw [hgo m]
    by_cases hm1 : a - n + m ≤ k
    · by_cases hm0 : m = 0
      · subst hm0
        exact ⟨rfl, b3, .inr (.inl rfl)⟩
      · obtain ⟨k1, k2, k3, k4, k5, k6, k7⟩ := hmid (a - n + m) (by omega) hm1
        exact ⟨by rw [k7, b5], k4, .inr (.inr ⟨k2, k3, by omega⟩)⟩
    · have e := hend (a - n + m) (by omega) (by omega)
      rw [e]
      refine ⟨b5.symm, ?_, .inl rfl⟩
      show (go c' s n k).next = a
      by_cases hak : a = n + k
      · rw [show a - n = k by omega] at b3
        rw [b3]
      · exact (hmid k (by omega) (Nat.le_refl _)).2.2.2.1

theorem take_nu (j : Jn) (p : Pg) (x : Nat) : j.take { p with nu := x } = j.take p := rfl

/-- A head is written. -/
theorem RunAt.head {E : Nat} {c : Nat → Option Pg} {s : Sc} {n k a : Nat} (h : RunAt E c s n k a) (h16 : (n + k) % 16 = 0) (hc : c (n + k) = some ⟨E, n + k, 1, false, false, headB (n + k)⟩) (hjn : (go c s n k).jn.be = false → (go c s n k).jn = Jn.zero) :
    ∃ a', RunAt E c s n (k + 1) a' ∧ (go c s n (k + 1)).jn = (go c s n k).jn ∧ (go c s n (k + 1)).recs = (go c s n k).recs := by
  have hbr := h.br
  have hep : (go c s n k).ep ≤ E := by
    by_cases hk : 0 < k
    · rw [h.top hk]; exact Nat.le_refl _
    · have := h.base.2.2.2.1
      have hl := h.le
      rwa [show a - n = k by omega] at this
  have hst : (go c s n k).stands (n + k) ⟨E, n + k, 1, false, false, headB (n + k)⟩ = true := by
    unfold Sc.stands
    rw [if_pos ⟨rfl, hep⟩, if_pos h16]
    simp
  have htk : (go c s n k).jn.take ⟨E, n + k, 1, false, false, headB (n + k)⟩ = ((go c s n k).jn, [], false, 0) := by
    unfold Jn.take
    rw [if_pos (by simp [Pg.right, headB]), if_neg (by simp)]
  have hat : (go c s n k).atOf (n + k) ⟨E, n + k, 1, false, false, headB (n + k)⟩ = (go c s n k).at_ := by
    unfold Sc.atOf
    rw [if_neg (by simp)]
  have e : go c s n (k + 1) = { go c s n k with next := if (go c s n k).jn.be then (go c s n k).at_ else n + k + 1, ep := E } := by
    show (go c s n k).one (n + k) (c (n + k)) = _
    rw [hc, one_yes _ _ _ hbr hst]
    unfold Sc.took
    rw [hat, htk]
    cases hg : go c s n k
    rw [hg] at hbr
    simp_all
  have hrecs : (go c s n (k + 1)).recs = (go c s n k).recs := by rw [e]
  have hjn' : (go c s n (k + 1)).jn = (go c s n k).jn := by rw [e]
  by_cases hbe : (go c s n k).jn.be = true
  · have hak : a < n + k := by
      have hl := h.le
      by_cases ha : a = n + k
      · have := h.base.2.1
        rw [show a - n = k by omega] at this
        rw [this] at hbe
        cases hbe
      · omega
    refine ⟨a, ⟨h.ge, by omega, ?_, fun m h1 h2 => ?_, fun _ => by rw [e]⟩, hjn', hrecs⟩
    · rw [hrecs]; exact h.base
    · rw [hrecs]
      by_cases hm : m ≤ k
      · exact h.mid m h1 hm
      · obtain rfl : m = k + 1 := by omega
        obtain ⟨k1, k2, k3, k4, k5, k6, k7⟩ := h.mid k hak (Nat.le_refl _)
        rw [e]
        refine ⟨hbr, k2, k3, ?_, k5, rfl, rfl⟩
        simp [hbe, k3]
  · have hbe : (go c s n k).jn.be = false := by simpa using hbe
    refine ⟨n + k + 1, ⟨by omega, by omega, ?_, fun m h1 h2 => by omega, fun _ => by rw [e]⟩, hjn', hrecs⟩
    rw [show n + k + 1 - n = k + 1 by omega, e]
    refine ⟨hbr, hjn hbe, ?_, Nat.le_refl _, rfl⟩
    simp [hbe]

/-- A piece is written. -/
theorem RunAt.data {E : Nat} {c : Nat → Option Pg} {s : Sc} {n k a : Nat} {rec : List UInt8} {q : Nat} (h : RunAt E c s n k a) (h16 : (n + k) % 16 ≠ 0) (hq : q < cnt rec.length) (hl : rec.length ≤ 4096)
    (hjn : (go c s n k).jn = behind E rec q) (hc : c (n + k) = some { piece E rec q with nu := n + k }) :
    ∃ a', RunAt E c s n (k + 1) a' ∧ (go c s n (k + 1)).jn = behind E rec (q + 1) ∧ ∃ x, (go c s n (k + 1)).recs = if q + 1 = cnt rec.length then (go c s n k).recs ++ [(x, rec)] else (go c s n k).recs := by
  have hbr := h.br
  have hle := h.le
  have hge := h.ge
  have hep : (go c s n k).ep ≤ E := by
    by_cases hk : 0 < k
    · rw [h.top hk]; exact Nat.le_refl _
    · have := h.base.2.2.2.1
      rwa [show a - n = k by omega] at this
  have hst : (go c s n k).stands (n + k) { piece E rec q with nu := n + k } = true := by
    unfold Sc.stands
    rw [if_pos ⟨rfl, hep⟩, if_neg h16]
    rfl
  have htk : (go c s n k).jn.take { piece E rec q with nu := n + k } = (behind E rec (q + 1), if q + 1 = cnt rec.length then rec else [], q + 1 == cnt rec.length, 0) := by
    rw [hjn, take_nu]
    exact take_piece E rec q hq hl
  have hbe : (go c s n k).jn.be = !(q == 0) := by
    rw [hjn]
    unfold behind
    by_cases h0 : q = 0
    · subst h0; rw [if_pos (.inl rfl)]; rfl
    · rw [if_neg (by omega)]; simp [h0]
  have haq : (q = 0 ∧ a = n + k) ∨ (q ≠ 0 ∧ a < n + k) := by
    by_cases ha : a = n + k
    · left
      have := h.base.2.1
      rw [show a - n = k by omega, hjn] at this
      refine ⟨?_, ha⟩
      unfold behind at this
      by_cases h0 : q = 0
      · exact h0
      · rw [if_neg (by omega)] at this
        cases this
    · right
      have := (h.mid k (by omega) (Nat.le_refl _)).2.1
      rw [hbe] at this
      exact ⟨by simpa using this, by omega⟩
  have hat : (go c s n k).atOf (n + k) { piece E rec q with nu := n + k } = a := by
    unfold Sc.atOf
    rcases haq with ⟨h0, ha⟩ | ⟨h0, ha⟩
    · rw [if_pos ⟨rfl, by rw [hbe, h0]; rfl⟩, ha]
    · rw [if_neg (by rw [hbe]; simp [h0])]
      exact (h.mid k ha (Nat.le_refl _)).2.2.1
  have e : go c s n (k + 1) = ⟨behind E rec (q + 1), if q + 1 = cnt rec.length then (go c s n k).recs ++ [(a, rec)] else (go c s n k).recs, a, if (behind E rec (q + 1)).be then a else n + k + 1, E, false⟩ := by
    show (go c s n k).one (n + k) (c (n + k)) = _
    rw [hc, one_yes _ _ _ hbr hst]
    unfold Sc.took
    rw [hat, htk, if_pos rfl]
    by_cases hla : q + 1 = cnt rec.length
    · simp [hla, piece]
    · simp [hla, piece]
  by_cases hla : q + 1 = cnt rec.length
  · have hb : behind E rec (q + 1) = Jn.zero := by unfold behind; rw [if_pos (.inr hla)]
    refine ⟨n + k + 1, ⟨by omega, by omega, ?_, fun m h1 h2 => by omega, fun _ => by rw [e]⟩, by rw [e], a, by rw [e]⟩
    rw [show n + k + 1 - n = k + 1 by omega, e, hb]
    exact ⟨rfl, rfl, rfl, Nat.le_refl _, rfl⟩
  · have hb : behind E rec (q + 1) = ⟨true, E, rec.take (49 * (q + 1))⟩ := by unfold behind; rw [if_neg (by omega)]
    have hrecs : (go c s n (k + 1)).recs = (go c s n k).recs := by rw [e]; simp [hla]
    refine ⟨a, ⟨hge, by omega, by rw [hrecs]; exact h.base, fun m h1 h2 => ?_, fun _ => by rw [e]⟩, by rw [e], a, by rw [e]⟩
    rw [hrecs]
    by_cases hm : m ≤ k
    · exact h.mid m h1 hm
    · obtain rfl : m = k + 1 := by omega
      rw [e, hb]
      exact ⟨rfl, rfl, rfl, rfl, rfl, rfl, by simp [hla]⟩
end Go.Proofs.Ytmaaljfcnnlnpaa
