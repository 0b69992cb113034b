/-
  What a log's writes do to the chain of its pages.
-/
import Derived.Test.YtmaaljfcnnlnpaaSegLaw0
namespace Go.Proofs.Ytmaaljfcnnlnpaa
open Go.RowKit

/-- Old pages, over which new ones were laid from page n on. -/
def mix (old : Nat → Option Pg) (n : Nat) (new : List Pg) (i : Nat) : Option Pg := if i < n then old i else match new[i - n]? with | some p => some p | none => old i

theorem mix_lt (old : Nat → Option Pg) (n : Nat) (new : List Pg) (i : Nat) (h : i < n) : mix old n new i = old i := by unfold mix; rw [if_pos h]
theorem mix_new (old : Nat → Option Pg) (n : Nat) (new : List Pg) (j : Nat) (h : j < new.length) : mix old n new (n + j) = some new[j] := by
  unfold mix
  rw [if_neg (by omega), show n + j - n = j by omega, List.getElem?_eq_getElem h]
theorem mix_ge (old : Nat → Option Pg) (n : Nat) (new : List Pg) (i : Nat) (h : n + new.length ≤ i) : mix old n new i = old i := by
  unfold mix
  split
  · rfl
  · rw [List.getElem?_eq_none (by omega)]
theorem mix_app (old : Nat → Option Pg) (n : Nat) (new b : List Pg) (i : Nat) (h : i < n + new.length) : mix old n (new ++ b) i = mix old n new i := by
  unfold mix
  split
  · rfl
  · rw [List.getElem?_append_left (by omega)]
theorem mix_cases (old : Nat → Option Pg) (n : Nat) (new : List Pg) (i : Nat) : mix old n new i = old i ∨ ∃ p ∈ new, mix old n new i = some p := by
  by_cases h1 : i < n
  · exact .inl (mix_lt old n new i h1)
  · by_cases h2 : i < n + new.length
    · obtain ⟨j, rfl⟩ : ∃ j, i = n + j := ⟨i - n, by omega⟩
      exact .inr ⟨_, List.getElem_mem (by omega), mix_new old n new j (by omega)⟩
    · exact .inl (mix_ge old n new i (by omega))
theorem mix_snoc (old : Nat → Option Pg) (n : Nat) (new : List Pg) (p : Pg) (i : Nat) : mix old n (new ++ [p]) i = if i = n + new.length then some p else mix old n new i := by
  split
  · rename_i h
    subst h
    have := mix_new old n (new ++ [p]) new.length (by simp)
    rw [this]
    simp
  · rename_i h
    by_cases h1 : i < n + new.length
    · exact mix_app old n new [p] i h1
    · rw [mix_ge _ _ _ _ (by simp; omega), mix_ge _ _ _ _ (by omega)]

/-- What was written and isn't sure. -/
def lz (a : Nat) : List Pg → List Wr
  | [] => []
  | p :: ps => ((a : Int), layB p) :: lz (a + 1) ps
theorem lz_length : ∀ (ps : List Pg) (a : Nat), (lz a ps).length = ps.length
  | [], _ => rfl
  | _ :: ps, a => by show (lz (a + 1) ps).length + 1 = _; rw [lz_length ps]; rfl
theorem lz_snoc (p : Pg) : ∀ (ps : List Pg) (a : Nat), lz a (ps ++ [p]) = lz a ps ++ [(((a + ps.length : Nat) : Int), layB p)]
  | [], a => rfl
  | q :: ps, a => by
    show ((a : Int), layB q) :: lz (a + 1) (ps ++ [p]) = ((a : Int), layB q) :: (lz (a + 1) ps ++ _)
    rw [lz_snoc p ps (a + 1), show a + 1 + ps.length = a + (q :: ps).length by simp; omega]

theorem stl_lz (k : Nat → Bool) (f : Int → List UInt8) (a : Nat) : ∀ (n : Nat) (ps : List Pg), ps.length = n → ∀ i : Nat, stl k (lz a ps) f (i : Int) = if h : a ≤ i ∧ i - a < ps.length then (if k (i - a) then layB ps[i - a] else f i) else f i
  | 0, ps, hn, i => by
    obtain rfl := List.eq_nil_of_length_eq_zero hn
    rw [dif_neg (by simp)]
    rfl
  | n + 1, ps, hn, i => by
    obtain ⟨r, p, rfl⟩ : ∃ r p, ps = r ++ [p] := ⟨ps.dropLast, ps.getLast (by intro h; rw [h] at hn; simp at hn), (List.dropLast_concat_getLast _).symm⟩
    have hr : r.length = n := by simpa using hn
    have ih := stl_lz k f a n r hr i
    rw [lz_snoc, stl_snoc, lz_length]
    by_cases hi : i = a + r.length
    · subst hi
      rw [dif_pos ⟨by omega, by simp⟩]
      have e : a + r.length - a = r.length := by omega
      simp only [e]
      split
      · rw [put_same]; simp
      · rw [ih, dif_neg (by omega)]
    · have hne : (i : Int) ≠ ((a + r.length : Nat) : Int) := by omega
      have hp : (if k r.length = true then put (stl k (lz a r) f) (((a + r.length : Nat) : Int), layB p).1 (((a + r.length : Nat) : Int), layB p).2 else stl k (lz a r) f) (i : Int) = stl k (lz a r) f (i : Int) := by
        split
        · exact put_other _ _ _ _ hne
        · rfl
      rw [hp, ih]
      by_cases h : a ≤ i ∧ i - a < r.length
      · have h3 : a ≤ i ∧ i - a < (r ++ [p]).length := ⟨h.1, by rw [List.length_append]; omega⟩
        rw [dif_pos h, dif_pos h3]
        simp only [List.getElem_append_left h.2]
      · rw [dif_neg h, dif_neg (fun h2 => h ⟨h2.1, by have := h2.2; rw [List.length_append] at this; simp at this; omega⟩)]

theorem stl_lz' (k : Nat → Bool) (f : Int → List UInt8) (a : Nat) (ps : List Pg) (i : Nat) : stl k (lz a ps) f (i : Int) = if h : a ≤ i ∧ i - a < ps.length then (if k (i - a) then layB ps[i - a] else f i) else f i :=
  stl_lz k f a _ ps rfl i

/-- A page that a log writes. -/
def Pg.fine (p : Pg) : Prop := p.right = true ∧ p.ep < 4294967296 ∧ p.nu < 4294967296
theorem rdO_lay (p : Pg) (h : p.fine) : rdO (layB p) = some p := by
  unfold rdO
  rw [read_lay p h.1 h.2.1 h.2.2, if_pos rfl]

/-- What is read behind a write. -/
theorem seen_wrote (D : Dk) (i j : Int) (p : List UInt8) : (D.wrote i p).seen j = if j = i then p else D.seen j := by
  unfold Dk.seen Dk.wrote
  show (lastAt (D.loose ++ [(i, p)]) j).getD (D.sure j) = _
  rw [lastAt_append]
  by_cases h : i = j
  · rw [if_pos h, if_pos h.symm]; rfl
  · rw [if_neg h, if_neg (Ne.symm h)]

/-- A log that is open: over the pages old, whose end is at n0, it has written the pages new of the epoch E; the first m of them are sure. -/
structure LI (old : Nat → Option Pg) (P E n0 : Nat) (s0 : Sc) (L : Lg) (new : List Pg) (m : Nat) : Prop where
  good : Good old P E n0 s0
  ep : L.ep = E
  lt : E < 1000000
  nx : L.nx = n0 + new.length
  le : L.nx ≤ P
  hP : P ≤ 100000
  fine : ∀ p ∈ new, p.fine ∧ p.ep = E
  chain : ∀ k, k ≤ new.length → ∃ a, RunAt E (mix old n0 new) s0 n0 k a
  hm : m ≤ new.length
  sure : ∀ i, i < P → rdO (L.D.sure (i : Int)) = mix old n0 (new.take m) i
  loose : L.D.loose = lz (n0 + m) (new.drop m)

/-- What is read of it. -/
theorem LI.pgs {old : Nat → Option Pg} {P E n0 : Nat} {s0 : Sc} {L : Lg} {new : List Pg} {m : Nat} (h : LI old P E n0 s0 L new m) (i : Nat) (hi : i < P) : L.D.pgs i = mix old n0 new i := by
  unfold Dk.pgs
  have hs : L.D.seen (i : Int) = stl (fun _ => true) L.D.loose L.D.sure (i : Int) := seen_all L.D.loose L.D.sure i
  rw [hs, h.loose, stl_lz']
  have hm := h.hm
  by_cases hc : n0 + m ≤ i ∧ i - (n0 + m) < (new.drop m).length
  · rw [dif_pos hc, if_pos rfl]
    have h2 := hc.2
    rw [List.length_drop] at h2
    have e : (new.drop m)[i - (n0 + m)] = new[i - n0]'(by omega) := by
      rw [List.getElem_drop]
      congr 1
      omega
    rw [e, rdO_lay _ (h.fine _ (List.getElem_mem _)).1]
    have := mix_new old n0 new (i - n0) (by omega)
    rw [show n0 + (i - n0) = i by omega] at this
    exact this.symm
  · rw [dif_neg hc, h.sure i hi]
    rw [List.length_drop] at hc
    by_cases h1 : i < n0 + m
    · have e : new = new.take m ++ new.drop m := (List.take_append_drop m new).symm
      have hl : (new.take m).length = m := by simp; omega
      have := mix_app old n0 (new.take m) (new.drop m) i (by rw [hl]; exact h1)
      rw [← e] at this
      exact this.symm
    · rw [mix_ge _ _ _ _ (by simp; omega), mix_ge _ _ _ _ (by omega)]

section
variable {old : Nat → Option Pg} {P E n0 : Nat} {s0 : Sc} {L : Lg} {new : List Pg} {m : Nat}

/-- The state of the chain behind all that was written. -/
def endS (old : Nat → Option Pg) (n0 : Nat) (s0 : Sc) (new : List Pg) : Sc := go (mix old n0 new) s0 n0 new.length

theorem go_mix_app (b : List Pg) (k : Nat) (hk : k ≤ new.length) : go (mix old n0 (new ++ b)) s0 n0 k = go (mix old n0 new) s0 n0 k :=
  go_congr _ _ _ (fun i _ h2 => mix_app old n0 new b i (by omega))

/-- A write that is refused. -/
theorem LI.frozen (h : LI old P E n0 s0 L new m) (z : Bool) : LI old P E n0 s0 { L with fz := z } new m := ⟨h.good, h.ep, h.lt, h.nx, h.le, h.hP, h.fine, h.chain, h.hm, h.sure, h.loose⟩

/-- A page written. -/
theorem LI.wrote (h : LI old P E n0 s0 L new m) (hlt : L.nx < P) (p : Pg) (hp : p.right = true) (hc : ∃ a, RunAt E (mix old n0 (new ++ [{ p with ep := E, nu := n0 + new.length }])) s0 n0 (new.length + 1) a) :
    LI old P E n0 s0 { L with D := L.D.burnt.wrote (L.nx : Int) (layB { p with ep := L.ep, nu := L.nx }), nx := L.nx + 1 } (new ++ [{ p with ep := E, nu := n0 + new.length }]) m := by
  have hm := h.hm
  have hnx := h.nx
  have hP := h.hP
  have hE := h.lt
  refine ⟨h.good, h.ep, h.lt, ?_, ?_, h.hP, fun q hq => ?_, fun k hk => ?_, ?_, fun i hi => ?_, ?_⟩
  · show L.nx + 1 = _
    rw [List.length_append, hnx]
    rfl
  · show L.nx + 1 ≤ P
    omega
  · rcases List.mem_append.1 hq with hq | hq
    · exact h.fine q hq
    · rw [List.mem_singleton.1 hq]
      exact ⟨⟨hp, by show E < 4294967296; omega, by show n0 + new.length < 4294967296; omega⟩, rfl⟩
  · rw [List.length_append] at hk
    by_cases h1 : k ≤ new.length
    · obtain ⟨a, ha⟩ := h.chain k h1
      exact ⟨a, ha.congr (fun i _ h3 => (mix_app old n0 new _ i (by omega)).symm)⟩
    · obtain rfl : k = new.length + 1 := by simp at hk; omega
      exact hc
  · rw [List.length_append]; omega
  · rw [List.take_append_of_le_length hm]
    exact h.sure i hi
  · show L.D.loose ++ [((L.nx : Int), layB { p with ep := L.ep, nu := L.nx })] = _
    rw [List.drop_append_of_le_length hm, lz_snoc, ← h.loose, List.length_drop, h.ep, hnx, show n0 + m + (new.length - m) = n0 + new.length by omega]

/-- A head written. -/
theorem LI.head (h : LI old P E n0 s0 L new m) (hlt : L.nx < P) (h16 : L.nx % 16 = 0) (hj : (endS old n0 s0 new).jn.be = false → (endS old n0 s0 new).jn = Jn.zero) :
    LI old P E n0 s0 { L with D := L.D.burnt.wrote (L.nx : Int) (layB ⟨L.ep, L.nx, 1, false, false, headB L.nx⟩), nx := L.nx + 1 } (new ++ [⟨E, n0 + new.length, 1, false, false, headB (n0 + new.length)⟩]) m ∧
      (endS old n0 s0 (new ++ [⟨E, n0 + new.length, 1, false, false, headB (n0 + new.length)⟩])).jn = (endS old n0 s0 new).jn ∧ (endS old n0 s0 (new ++ [⟨E, n0 + new.length, 1, false, false, headB (n0 + new.length)⟩])).recs = (endS old n0 s0 new).recs := by
  have hnx := h.nx
  obtain ⟨a, ha⟩ := h.chain new.length (Nat.le_refl _)
  have hm := mix_new old n0 (new ++ [⟨E, n0 + new.length, 1, false, false, headB (n0 + new.length)⟩]) new.length (by simp)
  have ha' : RunAt E (mix old n0 (new ++ [⟨E, n0 + new.length, 1, false, false, headB (n0 + new.length)⟩])) s0 n0 new.length a := ha.congr (fun i _ h3 => (mix_app old n0 new _ i (by omega)).symm)
  have e := go_mix_app (old := old) (n0 := n0) (s0 := s0) (new := new) [⟨E, n0 + new.length, 1, false, false, headB (n0 + new.length)⟩] new.length (Nat.le_refl _)
  obtain ⟨a', k1, k2, k3⟩ := ha'.head (by rw [← hnx]; exact h16) (by rw [hm]; simp) (by rw [e]; exact hj)
  have hw := h.wrote hlt ⟨0, 0, 1, false, false, headB L.nx⟩ (by simp [Pg.right, headB]) ⟨a', by rw [hnx]; exact k1⟩
  rw [e] at k2 k3
  refine ⟨?_, ?_, ?_⟩
  · rw [hnx] at hw ⊢
    exact hw
  · unfold endS
    rw [List.length_append]
    exact k2
  · unfold endS
    rw [List.length_append]
    exact k3

/-- A piece written. -/
theorem LI.piece (h : LI old P E n0 s0 L new m) (hlt : L.nx < P) (h16 : L.nx % 16 ≠ 0) (rec : List UInt8) (q : Nat) (hq : q < cnt rec.length) (hl : rec.length ≤ 4096) (hj : (endS old n0 s0 new).jn = behind E rec q) :
    ∃ new', new' = new ++ [{ piece E rec q with nu := n0 + new.length }] ∧ LI old P E n0 s0 { L with D := L.D.burnt.wrote (L.nx : Int) (layB { piece 0 rec q with ep := L.ep, nu := L.nx }), nx := L.nx + 1 } new' m ∧
      (endS old n0 s0 new').jn = behind E rec (q + 1) ∧ ∃ x, (endS old n0 s0 new').recs = if q + 1 = cnt rec.length then (endS old n0 s0 new).recs ++ [(x, rec)] else (endS old n0 s0 new).recs := by
  have hnx := h.nx
  refine ⟨_, rfl, ?_⟩
  obtain ⟨a, ha⟩ := h.chain new.length (Nat.le_refl _)
  have hm := mix_new old n0 (new ++ [{ Ytmaaljfcnnlnpaa.piece E rec q with nu := n0 + new.length }]) new.length (by simp)
  have ha' : RunAt E (mix old n0 (new ++ [{ Ytmaaljfcnnlnpaa.piece E rec q with nu := n0 + new.length }])) s0 n0 new.length a := ha.congr (fun i _ h3 => (mix_app old n0 new _ i (by omega)).symm)
  have e := go_mix_app (old := old) (n0 := n0) (s0 := s0) (new := new) [{ Ytmaaljfcnnlnpaa.piece E rec q with nu := n0 + new.length }] new.length (Nat.le_refl _)
  obtain ⟨a', k1, k2, x, k3⟩ := ha'.data (by rw [← hnx]; exact h16) hq hl (by rw [e]; exact hj) (by rw [hm]; simp)
  have hw := h.wrote hlt (Ytmaaljfcnnlnpaa.piece 0 rec q) (piece_right 0 rec q hq) ⟨a', k1⟩
  rw [e] at k3
  refine ⟨hw, ?_, x, ?_⟩
  · unfold endS
    rw [List.length_append]
    exact k2
  · unfold endS
    rw [List.length_append]
    exact k3
end

theorem behind_be (E : Nat) (rec : List UInt8) (q : Nat) (h : (behind E rec q).be = false) : behind E rec q = Jn.zero := by
  unfold behind at h ⊢
  split
  · rfl
  · rename_i h2
    rw [if_neg h2] at h
    cases h

section
variable {old : Nat → Option Pg} {P E n0 : Nat} {s0 : Sc} {m : Nat}

theorem put_LI {L : Lg} {new : List Pg} (h : LI old P E n0 s0 L new m) (rec : List UInt8) (q : Nat) (hq : q < cnt rec.length) (hl : rec.length ≤ 4096) (hj : (endS old n0 s0 new).jn = behind E rec q) (hroom : L.nx + (if L.nx % 16 = 0 then 2 else 1) ≤ P) :
    ∃ b, LI old P E n0 s0 (L.put (piece 0 rec q)).1 (new ++ b) m ∧
      ((L.put (piece 0 rec q)).2 = 0 → (L.put (piece 0 rec q)).1.fz = L.fz ∧ (L.put (piece 0 rec q)).1.nx = L.nx + (if L.nx % 16 = 0 then 2 else 1) ∧ (endS old n0 s0 (new ++ b)).jn = behind E rec (q + 1) ∧ ∃ x, (endS old n0 s0 (new ++ b)).recs = if q + 1 = cnt rec.length then (endS old n0 s0 new).recs ++ [(x, rec)] else (endS old n0 s0 new).recs) ∧
      ((L.put (piece 0 rec q)).2 ≠ 0 → (L.put (piece 0 rec q)).2 = 6 ∧ (L.put (piece 0 rec q)).1.fz = true ∧ (endS old n0 s0 (new ++ b)).recs = (endS old n0 s0 new).recs) := by
  unfold Lg.put
  by_cases h16 : L.nx % 16 = 0
  · rw [if_pos h16] at hroom
    rw [if_pos h16]
    by_cases hf : L.D.fuse = 0
    · have e : L.wr ⟨0, 0, 1, false, false, headB L.nx⟩ = ({ L with fz := true }, 6) := by unfold Lg.wr; rw [if_pos hf]
      rw [e, if_neg (show ¬ (6 : Nat) = 0 by decide)]
      refine ⟨[], ?_, fun h => absurd h (show ¬ (6 : Nat) = 0 by decide), fun _ => ⟨rfl, rfl, ?_⟩⟩
      · rw [List.append_nil]; exact h.frozen true
      · rw [List.append_nil]
    · have e : L.wr ⟨0, 0, 1, false, false, headB L.nx⟩ = ({ L with D := L.D.burnt.wrote (L.nx : Int) (layB ⟨L.ep, L.nx, 1, false, false, headB L.nx⟩), nx := L.nx + 1 }, 0) := by unfold Lg.wr; rw [if_neg hf]
      rw [e, if_pos rfl]
      obtain ⟨k1, k2, k3⟩ := h.head (by omega) h16 (fun hb => by rw [hj] at hb ⊢; exact behind_be _ _ _ hb)
      generalize { L with D := L.D.burnt.wrote (L.nx : Int) (layB ⟨L.ep, L.nx, 1, false, false, headB L.nx⟩), nx := L.nx + 1 } = L1 at *
      have hfz : L1.fz = L.fz := by
        have := congrArg (fun x : Lg × Nat => x.1.fz) e
        simpa [Lg.wr, hf] using this.symm
      have hn1 : L1.nx = L.nx + 1 := by rw [k1.nx, h.nx, List.length_append]; rfl
      rw [hj] at k2
      generalize hnew : new ++ [⟨E, n0 + new.length, 1, false, false, headB (n0 + new.length)⟩] = new1 at *
      by_cases hf1 : L1.D.fuse = 0
      · have e1 : L1.wr (piece 0 rec q) = ({ L1 with fz := true }, 6) := by unfold Lg.wr; rw [if_pos hf1]
        rw [e1]
        refine ⟨[⟨E, n0 + new.length, 1, false, false, headB (n0 + new.length)⟩], ?_, fun h => absurd h (show ¬ (6 : Nat) = 0 by decide), fun _ => ⟨rfl, rfl, ?_⟩⟩
        · rw [hnew]; exact k1.frozen true
        · rw [hnew]; exact k3
      · have e1 : L1.wr (piece 0 rec q) = ({ L1 with D := L1.D.burnt.wrote (L1.nx : Int) (layB { piece 0 rec q with ep := L1.ep, nu := L1.nx }), nx := L1.nx + 1 }, 0) := by unfold Lg.wr; rw [if_neg hf1]
        rw [e1]
        obtain ⟨new2, hn2, j1, j2, x, j3⟩ := k1.piece (by omega) (by omega) rec q hq hl k2
        refine ⟨[⟨E, n0 + new.length, 1, false, false, headB (n0 + new.length)⟩] ++ [{ piece E rec q with nu := n0 + new1.length }], ?_, fun _ => ⟨hfz, ?_, ?_, x, ?_⟩, fun h => absurd rfl h⟩
        · rw [← List.append_assoc, hnew, ← hn2]; exact j1
        · show L1.nx + 1 = _; rw [if_pos h16, hn1]
        · rw [← List.append_assoc, hnew, ← hn2]; exact j2
        · rw [← List.append_assoc, hnew, ← hn2, j3, k3]
  · rw [if_neg h16] at hroom
    rw [if_neg h16]
    by_cases hf : L.D.fuse = 0
    · have e : L.wr (piece 0 rec q) = ({ L with fz := true }, 6) := by unfold Lg.wr; rw [if_pos hf]
      rw [e]
      refine ⟨[], ?_, fun h => absurd h (show ¬ (6 : Nat) = 0 by decide), fun _ => ⟨rfl, rfl, ?_⟩⟩
      · rw [List.append_nil]; exact h.frozen true
      · rw [List.append_nil]
    · have e1 : L.wr (piece 0 rec q) = ({ L with D := L.D.burnt.wrote (L.nx : Int) (layB { piece 0 rec q with ep := L.ep, nu := L.nx }), nx := L.nx + 1 }, 0) := by unfold Lg.wr; rw [if_neg hf]
      rw [e1]
      obtain ⟨new2, hn2, j1, j2, x, j3⟩ := h.piece (by omega) h16 rec q hq hl hj
      refine ⟨[{ piece E rec q with nu := n0 + new.length }], ?_, fun _ => ⟨rfl, ?_, ?_, x, ?_⟩, fun h => absurd rfl h⟩
      · rw [← hn2]; exact j1
      · show L.nx + 1 = _; rw [if_neg h16]
      · rw [← hn2]; exact j2
      · rw [← hn2, j3]

theorem puts_LI (rec : List UInt8) (hl : rec.length ≤ 4096) : ∀ (j q : Nat) (L : Lg) (new : List Pg), cnt rec.length = q + j → LI old P E n0 s0 L new m → (endS old n0 s0 new).jn = behind E rec q → L.nx + layLen L.nx j ≤ P →
    ∃ b, LI old P E n0 s0 (L.puts ((pieces 0 rec).drop q)).1 (new ++ b) m ∧
      ((L.puts ((pieces 0 rec).drop q)).2 = 0 → (L.puts ((pieces 0 rec).drop q)).1.fz = L.fz ∧ (endS old n0 s0 (new ++ b)).jn = behind E rec (cnt rec.length) ∧ (0 < j → ∃ x, (endS old n0 s0 (new ++ b)).recs = (endS old n0 s0 new).recs ++ [(x, rec)])) ∧
      ((L.puts ((pieces 0 rec).drop q)).2 ≠ 0 → (L.puts ((pieces 0 rec).drop q)).2 = 6 ∧ (L.puts ((pieces 0 rec).drop q)).1.fz = true ∧ (endS old n0 s0 (new ++ b)).recs = (endS old n0 s0 new).recs)
  | 0, q, L, new, hc, h, hj, _ => by
    rw [List.drop_of_length_le (by rw [pieces_length]; omega)]
    refine ⟨[], by rw [List.append_nil]; exact h, fun _ => ⟨rfl, by rw [List.append_nil, hj, hc]; rfl, fun h => by omega⟩, fun h => absurd rfl h⟩
  | j + 1, q, L, new, hc, h, hj, hroom => by
    have hq : q < cnt rec.length := by omega
    have hd : (pieces 0 rec).drop q = piece 0 rec q :: (pieces 0 rec).drop (q + 1) := by
      rw [List.drop_eq_getElem_cons (by rw [pieces_length]; exact hq), pieces_get]
    have hr : L.nx + (if L.nx % 16 = 0 then 2 + layLen (L.nx + 2) j else 1 + layLen (L.nx + 1) j) ≤ P := hroom
    obtain ⟨b, k1, k2, k3⟩ := put_LI h rec q hq hl hj (by split at hr <;> rename_i h16 <;> simp [h16] <;> omega)
    rw [hd]
    have hp : L.puts (piece 0 rec q :: (pieces 0 rec).drop (q + 1)) = if (L.put (piece 0 rec q)).2 = 0 then (L.put (piece 0 rec q)).1.puts ((pieces 0 rec).drop (q + 1)) else L.put (piece 0 rec q) := rfl
    rw [hp]
    by_cases he : (L.put (piece 0 rec q)).2 = 0
    · rw [if_pos he]
      obtain ⟨z1, z2, z3, x, z4⟩ := k2 he
      obtain ⟨b2, j1, j2, j3⟩ := puts_LI rec hl j (q + 1) (L.put (piece 0 rec q)).1 (new ++ b) (by omega) k1 z3 (by
        rw [z2]
        split at hr <;> rename_i h16 <;> simp only [h16, if_true, if_false] <;> omega)
      refine ⟨b ++ b2, by rw [← List.append_assoc]; exact j1, fun h0 => ?_, fun h0 => ?_⟩
      · obtain ⟨y1, y2, y3⟩ := j2 h0
        rw [← List.append_assoc]
        refine ⟨y1.trans z1, y2, fun _ => ?_⟩
        by_cases hj0 : 0 < j
        · obtain ⟨x2, hx⟩ := y3 hj0
          exact ⟨x2, by rw [hx, z4, if_neg (by omega)]⟩
        · obtain rfl : j = 0 := by omega
          have hdn : (pieces 0 rec).drop (q + 1) = [] := List.drop_of_length_le (by rw [pieces_length]; omega)
          refine ⟨x, ?_⟩
          have hlen : b2 = [] := by
            have n1 := j1.nx
            rw [hdn] at n1
            have n2 := k1.nx
            have n3 : (L.put (piece 0 rec q)).1.nx = n0 + (new ++ b ++ b2).length := n1
            have n4 : (new ++ b ++ b2).length = (new ++ b).length + b2.length := List.length_append
            exact List.eq_nil_of_length_eq_zero (by omega)
          rw [hlen, List.append_nil, z4, if_pos (by omega)]
      · obtain ⟨y1, y2, y3⟩ := j3 h0
        rw [← List.append_assoc]
        refine ⟨y1, y2, ?_⟩
        rw [y3, z4]
        by_cases hj0 : 0 < j
        · rw [if_neg (by omega)]
        · obtain rfl : j = 0 := by omega
          have hdn : (pieces 0 rec).drop (q + 1) = [] := List.drop_of_length_le (by rw [pieces_length]; omega)
          rw [hdn] at h0
          exact absurd rfl h0
    · rw [if_neg he]
      obtain ⟨z1, z2, z3⟩ := k3 he
      exact ⟨b, k1, fun h0 => absurd h0 he, fun _ => ⟨z1, z2, z3⟩⟩
end
end Go.Proofs.Ytmaaljfcnnlnpaa

namespace Go.Proofs.Ytmaaljfcnnlnpaa
open Go.RowKit

section
variable {old : Nat → Option Pg} {P E n0 : Nat} {s0 : Sc} {m : Nat} {L : Lg} {new : List Pg}

theorem app_LI (h : LI old P E n0 s0 L new m) (rec : List UInt8) (hj : L.fz = false → (endS old n0 s0 new).jn = Jn.zero) :
    ∃ b, LI old P E n0 s0 (L.app P rec).1 (new ++ b) m ∧
      ((L.app P rec).2.2 = 0 → (L.app P rec).1.fz = false ∧ (endS old n0 s0 (new ++ b)).jn = Jn.zero ∧ ∃ x, (endS old n0 s0 (new ++ b)).recs = (endS old n0 s0 new).recs ++ [(x, rec)]) ∧
      ((L.app P rec).2.2 ≠ 0 → (endS old n0 s0 (new ++ b)).recs = (endS old n0 s0 new).recs ∧ ((L.app P rec).1 = L ∧ b = [] ∧ (L.app P rec).2.2 ≠ 6 ∨ (L.app P rec).2.2 = 6 ∧ (L.app P rec).1.fz = true ∧ L.fz = false)) := by
  unfold Lg.app
  by_cases h1 : rec.length < 1 ∨ 4096 < rec.length
  · rw [if_pos h1]
    exact ⟨[], by rw [List.append_nil]; exact h, fun h => absurd h (show ¬ (10 : Nat) = 0 by decide), fun _ => ⟨by rw [List.append_nil], .inl ⟨rfl, rfl, show ¬ (10 : Nat) = 6 by decide⟩⟩⟩
  rw [if_neg h1]
  by_cases h2 : L.fz = true
  · rw [if_pos h2]
    exact ⟨[], by rw [List.append_nil]; exact h, fun h => absurd h (show ¬ (8 : Nat) = 0 by decide), fun _ => ⟨by rw [List.append_nil], .inl ⟨rfl, rfl, show ¬ (8 : Nat) = 6 by decide⟩⟩⟩
  rw [if_neg h2]
  have h2' : L.fz = false := by simpa using h2
  by_cases h3 : P < L.nx + layLen L.nx (cnt rec.length)
  · rw [if_pos h3]
    exact ⟨[], by rw [List.append_nil]; exact h, fun h => absurd h (show ¬ (5 : Nat) = 0 by decide), fun _ => ⟨by rw [List.append_nil], .inl ⟨rfl, rfl, show ¬ (5 : Nat) = 6 by decide⟩⟩⟩
  rw [if_neg h3]
  have hb0 : behind E rec 0 = Jn.zero := by unfold behind; rw [if_pos (.inl rfl)]
  have hb1 : behind E rec (cnt rec.length) = Jn.zero := by unfold behind; rw [if_pos (.inr rfl)]
  obtain ⟨b, k1, k2, k3⟩ := puts_LI rec (by omega) (cnt rec.length) 0 L new (by omega) h (by rw [hj h2', hb0]) (by omega)
  rw [List.drop_zero] at k1 k2 k3
  by_cases h4 : (L.puts (pieces 0 rec)).2 = 0
  · rw [if_pos h4]
    obtain ⟨z1, z2, z3⟩ := k2 h4
    exact ⟨b, k1, fun _ => ⟨z1.trans h2', by rw [z2, hb1], z3 (cnt_pos _ (by omega))⟩, fun h => absurd rfl h⟩
  · rw [if_neg h4]
    obtain ⟨z1, z2, z3⟩ := k3 h4
    exact ⟨b, k1, fun h => absurd h h4, fun _ => ⟨z3, .inr ⟨z1, z2, h2'⟩⟩⟩

theorem sync_LI (h : LI old P E n0 s0 L new m) :
    ∃ m', LI old P E n0 s0 L.sync.1 new m' ∧ (L.sync.2 = 0 → m' = new.length ∧ L.sync.1.fz = false ∧ L.fz = false) ∧ (L.sync.2 ≠ 0 → m' = m ∧ (L.sync.1 = L ∧ L.fz = true ∧ L.sync.2 = 8 ∨ L.sync.2 = 6 ∧ L.sync.1.fz = true ∧ L.fz = false)) := by
  unfold Lg.sync
  by_cases h1 : L.fz = true
  · rw [if_pos h1]
    exact ⟨m, h, fun h => absurd h (show ¬ (8 : Nat) = 0 by decide), fun _ => ⟨rfl, .inl ⟨rfl, h1, rfl⟩⟩⟩
  rw [if_neg h1]
  have h1' : L.fz = false := by simpa using h1
  by_cases h2 : L.D.fuse = 0
  · rw [if_pos h2]
    exact ⟨m, h.frozen true, fun h => absurd h (show ¬ (6 : Nat) = 0 by decide), fun _ => ⟨rfl, .inr ⟨rfl, rfl, h1'⟩⟩⟩
  rw [if_neg h2]
  refine ⟨new.length, ⟨h.good, h.ep, h.lt, h.nx, h.le, h.hP, h.fine, h.chain, Nat.le_refl _, fun i hi => ?_, ?_⟩, fun _ => ⟨rfl, h1', h1'⟩, fun h => absurd rfl h⟩
  · rw [List.take_length, ← h.pgs i hi]
    show rdO (stl (fun _ => true) L.D.loose L.D.sure (i : Int)) = rdO (L.D.seen (i : Int))
    rw [← seen_all]
    rfl
  · rw [List.drop_length]
    rfl

/-- How many of the writes that aren't sure are kept, one behind the other. -/
theorem kept_count (ks : Nat → Bool) (m : Nat) : ∀ d, ∃ k, m ≤ k ∧ k ≤ m + d ∧ (∀ j, m ≤ j → j < k → ks (j - m) = true) ∧ (k < m + d → ks (k - m) = false)
  | 0 => ⟨m, Nat.le_refl _, Nat.le_refl _, fun j h1 h2 => by omega, fun h => by omega⟩
  | d + 1 => by
    obtain ⟨k, h1, h2, h3, h4⟩ := kept_count ks m d
    by_cases hk : k < m + d
    · exact ⟨k, h1, by omega, h3, fun _ => h4 hk⟩
    · rcases Bool.eq_false_or_eq_true (ks (k - m)) with hb | hb
      · refine ⟨k + 1, by omega, by omega, fun j j1 j2 => ?_, fun h => by omega⟩
        by_cases hj : j < k
        · exact h3 j j1 hj
        · obtain rfl : j = k := by omega
          exact hb
      · exact ⟨k, h1, by omega, h3, fun _ => hb⟩

/-- What is read when the power has gone. -/
theorem crash_good (h : LI old P E n0 s0 L new m) (ks : Nat → Bool) :
    ∃ k n' s', m ≤ k ∧ k ≤ new.length ∧ Good (fun i => rdO (stl ks L.D.loose L.D.sure (i : Int))) P (E + 1) n' s' ∧ s'.recs = (go (mix old n0 new) s0 n0 k).recs := by
  have hm := h.hm
  obtain ⟨k, h1, h2, h3, h4⟩ := kept_count ks m (new.length - m)
  rw [show m + (new.length - m) = new.length by omega] at h2 h4
  have hnx := h.nx
  have hle := h.le
  -- the pages then
  have hc : ∀ i, i < P → rdO (stl ks L.D.loose L.D.sure (i : Int)) = if i < n0 + m then mix old n0 new i else if i < n0 + new.length then (if ks (i - (n0 + m)) then mix old n0 new i else old i) else old i := fun i hi => by
    rw [h.loose, stl_lz']
    have hl : (new.drop m).length = new.length - m := List.length_drop
    have htl : (new.take m).length = m := by simp; omega
    by_cases c1 : i < n0 + m
    · rw [dif_neg (by rw [hl]; omega), if_pos c1, h.sure i hi]
      have := mix_app old n0 (new.take m) (new.drop m) i (by rw [htl]; exact c1)
      rw [List.take_append_drop] at this
      exact this.symm
    · rw [if_neg c1]
      by_cases c2 : i < n0 + new.length
      · have hcc : n0 + m ≤ i ∧ i - (n0 + m) < (new.drop m).length := ⟨by omega, by rw [hl]; omega⟩
        rw [dif_pos hcc, if_pos c2]
        by_cases c3 : ks (i - (n0 + m)) = true
        · rw [if_pos c3, if_pos c3]
          have e : (new.drop m)[i - (n0 + m)] = new[i - n0]'(by omega) := by
            rw [List.getElem_drop]
            congr 1
            omega
          rw [e, rdO_lay _ (h.fine _ (List.getElem_mem _)).1]
          have := mix_new old n0 new (i - n0) (by omega)
          rw [show n0 + (i - n0) = i by omega] at this
          exact this.symm
        · rw [if_neg c3, if_neg c3, h.sure i hi, mix_ge _ _ _ _ (by rw [htl]; omega)]
      · rw [dif_neg (by rw [hl]; omega), if_neg c2, h.sure i hi, mix_ge _ _ _ _ (by rw [htl]; omega)]
  have hagree : ∀ i, i < n0 + k → rdO (stl ks L.D.loose L.D.sure (i : Int)) = mix old n0 new i := fun i hi => by
    rw [hc i (by omega)]
    by_cases c1 : i < n0 + m
    · rw [if_pos c1]
    · rw [if_neg c1, if_pos (by omega)]
      have := h3 (i - n0) (by omega) (by omega)
      rw [show i - n0 - m = i - (n0 + m) by omega] at this
      rw [if_pos this]
  obtain ⟨a, ha⟩ := h.chain k h2
  have ha' : RunAt E (fun i => rdO (stl ks L.D.loose L.D.sure (i : Int))) s0 n0 k a := ha.congr (fun i _ hi => (hagree i hi).symm)
  obtain ⟨n', s', g1, g2⟩ := kept_good h.good ha' (by omega) (fun i hi => by
      show rdO (stl ks L.D.loose L.D.sure (i : Int)) = old i
      rw [hagree i (by omega), mix_lt _ _ _ _ hi]) (fun hk => by
      show rdO (stl ks L.D.loose L.D.sure ((n0 + k : Nat) : Int)) = old (n0 + k)
      rw [hc _ hk, if_neg (by omega)]
      by_cases c2 : n0 + k < n0 + new.length
      · have := h4 (by omega)
        rw [show k - m = n0 + k - (n0 + m) by omega] at this
        rw [if_pos c2, if_neg (by rw [this]; decide)]
      · rw [if_neg c2]) (fun i hi => by
      show rdO (stl ks L.D.loose L.D.sure (i : Int)) = old i ∨ ∃ p, rdO (stl ks L.D.loose L.D.sure (i : Int)) = some p ∧ p.ep = E
      have hmx : mix old n0 new i = old i ∨ ∃ p, mix old n0 new i = some p ∧ p.ep = E := by
        rcases mix_cases old n0 new i with e | ⟨p, hp, e⟩
        · exact .inl e
        · exact .inr ⟨p, e, (h.fine p hp).2⟩
      rw [hc i hi]
      split
      · exact hmx
      · split
        · split
          · exact hmx
          · exact .inl rfl
        · exact .inl rfl)
  refine ⟨k, n', s', h1, h2, g1, ?_⟩
  rw [g2]
  exact congrArg Sc.recs (go_congr _ _ _ (fun i _ hi => hagree i hi))

/-- What is read without a loss. -/
theorem cur_good (h : LI old P E n0 s0 L new m) : ∃ n' s', Good L.D.pgs P (E + 1) n' s' ∧ s'.recs = (endS old n0 s0 new).recs := by
  have hnx := h.nx
  have hle := h.le
  obtain ⟨a, ha⟩ := h.chain new.length (Nat.le_refl _)
  have hag : ∀ i, i < P → L.D.pgs i = mix old n0 new i := fun i hi => h.pgs i hi
  obtain ⟨n', s', g1, g2⟩ := kept_good h.good (ha.congr (c' := L.D.pgs) (fun i _ hi => (hag i (by omega)).symm)) (by omega) (fun i hi => by rw [hag i (by omega), mix_lt _ _ _ _ hi]) (fun hk => by rw [hag _ hk, mix_ge _ _ _ _ (Nat.le_refl _)]) (fun i hi => by
    rw [hag i hi]
    rcases mix_cases old n0 new i with e | ⟨p, hp, e⟩
    · exact .inl e
    · exact .inr ⟨p, e, (h.fine p hp).2⟩)
  refine ⟨n', s', g1, ?_⟩
  rw [g2]
  exact congrArg Sc.recs (go_congr _ _ _ (fun i _ hi => hag i (by omega)))
end

/-- A scan tells a good log's records. -/
theorem scan_good {c : Nat → Option Pg} {P E n : Nat} {s : Sc} (h : Good c P E n s) (hP : 0 < P) : (stepTo c P P).recs = s.recs ∧ (stepTo c P P).next = n := by
  obtain ⟨a1, a2⟩ := stepTo_end c P hP
  obtain ⟨b1, b2⟩ := h.end_
  exact ⟨a1.trans b1, a2.trans b2⟩

theorem mostTo_ge (c : Nat → Option Pg) : ∀ k i p, i < k → c i = some p → p.ep ≤ mostTo c k
  | 0, i, p, h, _ => by omega
  | k + 1, i, p, h, hp => by
    show p.ep ≤ mostUp (mostTo c k) (c k)
    by_cases hi : i < k
    · have := mostTo_ge c k i p hi hp
      unfold mostUp
      split
      · exact this
      · exact Nat.le_trans this (Nat.le_max_left _ _)
    · obtain rfl : i = k := by omega
      rw [hp]
      exact Nat.le_max_right _ _
theorem mostTo_le (c : Nat → Option Pg) (M : Nat) : ∀ k, (∀ i p, i < k → c i = some p → p.ep ≤ M) → mostTo c k ≤ M
  | 0, _ => Nat.zero_le _
  | k + 1, h => by
    have ih := mostTo_le c M k (fun i p hi hp => h i p (by omega) hp)
    show mostUp (mostTo c k) (c k) ≤ M
    unfold mostUp
    split
    · exact ih
    · rename_i p hp
      exact Nat.max_le.2 ⟨ih, h k p (by omega) hp⟩

/-- Epochs that a chain knows are epochs of its pages. -/
theorem one_eps (s : Sc) (i : Nat) (r : Option Pg) (M : Nat) (h1 : s.ep ≤ M) (h2 : s.jn.ep ≤ M) (hr : ∀ p, r = some p → p.ep ≤ M) : (s.one i r).ep ≤ M ∧ (s.one i r).jn.ep ≤ M := by
  cases r with
  | none => exact ⟨h1, h2⟩
  | some p =>
    have hp := hr p rfl
    have ht : (s.jn.take p).1.ep ≤ M := by
      unfold Jn.take
      split
      · split
        · split
          · split
            · exact Nat.zero_le _
            · exact hp
          · exact Nat.zero_le _
        · exact h2
      · exact h2
    show (if s.br = false ∧ s.stands i p = true then s.took i p else { s with br := true }).ep ≤ M ∧ (if s.br = false ∧ s.stands i p = true then s.took i p else { s with br := true }).jn.ep ≤ M
    split
    · unfold Sc.took
      split
      · exact ⟨hp, ht⟩
      · exact ⟨h1, ht⟩
    · exact ⟨h1, h2⟩
theorem go_eps (c : Nat → Option Pg) (s : Sc) (n M : Nat) (h1 : s.ep ≤ M) (h2 : s.jn.ep ≤ M) : ∀ m, (∀ i p, n ≤ i → i < n + m → c i = some p → p.ep ≤ M) → (go c s n m).ep ≤ M ∧ (go c s n m).jn.ep ≤ M
  | 0, _ => ⟨h1, h2⟩
  | m + 1, h => by
    obtain ⟨a1, a2⟩ := go_eps c s n M h1 h2 m (fun i p i1 i2 hp => h i p i1 (by omega) hp)
    exact one_eps _ _ _ M a1 a2 (fun p hp => h (n + m) p (by omega) (by omega) hp)

/-- A log's epoch may be told by its greatest page. -/
theorem Good.lower {c : Nat → Option Pg} {P E n : Nat} {s : Sc} (h : Good c P E n s) (M : Nat) (hM : ∀ i p, i < P → c i = some p → p.ep ≤ M) : Good c P (M + 1) n s := by
  have hle := h.le
  have e0 := go_eps c Sc.zero 0 M (Nat.zero_le _) (Nat.zero_le _) n (fun i p _ i2 hp => hM i p (by omega) hp)
  rw [h.at_] at e0
  refine ⟨h.at_, h.br, h.jn, h.next, h.le, by omega, fun m hm => ?_, fun i p hi hp => by have := hM i p hi hp; omega⟩
  obtain ⟨t1, t2, t3⟩ := h.tail m hm
  refine ⟨t1, t2, ?_⟩
  rcases t3 with t3 | t3 | ⟨t3, t4, t5⟩
  · exact .inl t3
  · exact .inr (.inl t3)
  · have := go_eps c s n M e0.1 e0.2 m (fun i p _ i2 hp => hM i p (by omega) hp)
    exact .inr (.inr ⟨t3, t4, by omega⟩)

/-- A log just opened. -/
theorem LI.opened {D : Dk} {P E n : Nat} {s : Sc} (h : Good D.pgs P E n s) (hl : D.loose = []) (hP : P ≤ 100000) (hE : E < 1000000) : LI D.pgs P (mostTo D.pgs P + 1) n s ⟨D, mostTo D.pgs P + 1, n, false⟩ [] 0 := by
  have hM : mostTo D.pgs P ≤ E - 1 := mostTo_le _ _ _ (fun i p hi hp => by have := h.low i p hi hp; omega)
  have hE0 := h.ep
  refine ⟨h.lower _ (fun i p hi hp => mostTo_ge D.pgs P i p hi hp), rfl, by omega, rfl, h.le, hP, fun p hp => (by cases hp), fun k hk => ?_, Nat.le_refl _, fun i _ => ?_, ?_⟩
  · obtain rfl : k = 0 := by simpa using hk
    exact ⟨n, RunAt.start (h.lower (mostTo D.pgs P) (fun i p hi hp => mostTo_ge D.pgs P i p hi hp)) _⟩
  · have : mix D.pgs n (List.take 0 []) i = D.pgs i := by
      by_cases hi : i < n
      · exact mix_lt _ _ _ _ hi
      · exact mix_ge _ _ _ _ (by simp; omega)
    rw [this]
    unfold Dk.pgs Dk.seen
    rw [hl]
    rfl
  · show D.loose = []
    exact hl

/-- An empty disk's log. -/
theorem good_none {c : Nat → Option Pg} (hc : ∀ i, c i = none) (P : Nat) : Good c P 1 0 Sc.zero := by
  have hg : ∀ m, go c Sc.zero 0 (m + 1) = { Sc.zero with br := true } := fun m => by
    induction m with
    | zero => show Sc.zero.one 0 (c 0) = _; rw [hc]; rfl
    | succ m ih =>
      show (go c Sc.zero 0 (m + 1)).one (0 + (m + 1)) (c (0 + (m + 1))) = _
      rw [ih, hc]; rfl
  refine ⟨rfl, rfl, rfl, rfl, Nat.zero_le _, Nat.zero_lt_one, fun m _ => ?_, fun i p _ hp => by rw [hc] at hp; cases hp⟩
  cases m with
  | zero => exact ⟨rfl, rfl, .inr (.inl rfl)⟩
  | succ m => rw [hg m]; exact ⟨rfl, rfl, .inl rfl⟩
end Go.Proofs.Ytmaaljfcnnlnpaa
