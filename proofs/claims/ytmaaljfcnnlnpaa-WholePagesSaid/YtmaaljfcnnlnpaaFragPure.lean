/-
  Records, their pieces and the joiner, over lists of bytes. Nothing of the program is named here.
-/
namespace Go.Proofs.Ytmaaljfcnnlnpaa

/-- How many pieces a text of so many bytes has. -/
def cnt (n : Nat) : Nat := (n + 48) / 49
/-- The length of piece k. -/
def plen (n k : Nat) : Nat := min 49 (n - 49 * k)

/-- A page. -/
structure Pg where
  ep : Nat
  nu : Nat
  ki : Int
  fi : Bool
  la : Bool
  da : List UInt8
  deriving DecidableEq

def chunk (rec : List UInt8) (k : Nat) : List UInt8 := (rec.drop (49 * k)).take 49
def piece (ep : Nat) (rec : List UInt8) (k : Nat) : Pg := ⟨ep, 0, 2, k == 0, k + 1 == cnt rec.length, chunk rec k⟩
def pieces (ep : Nat) (rec : List UInt8) : List Pg := (List.range (cnt rec.length)).map (piece ep rec)

theorem pieces_length (ep : Nat) (rec : List UInt8) : (pieces ep rec).length = cnt rec.length := by simp [pieces]
theorem pieces_get (ep : Nat) (rec : List UInt8) (k : Nat) (h : k < (pieces ep rec).length) : (pieces ep rec)[k] = piece ep rec k := by simp [pieces]
theorem chunk_length (rec : List UInt8) (k : Nat) : (chunk rec k).length = plen rec.length k := by simp [chunk, plen]
theorem cnt_pos (n : Nat) (h : 0 < n) : 0 < cnt n := by unfold cnt; omega
theorem plen_pos (n k : Nat) (h : k < cnt n) : 1 ≤ plen n k := by unfold cnt at h; unfold plen; omega
theorem plen_le (n k : Nat) : plen n k ≤ 49 := by unfold plen; omega

/-- The beginning of a record that the first pieces make. -/
theorem take_chunk (rec : List UInt8) (k : Nat) : rec.take (49 * k) ++ chunk rec k = rec.take (49 * (k + 1)) := by
  unfold chunk
  rw [show 49 * (k + 1) = 49 * k + 49 by omega, List.take_add]
theorem take_all (rec : List UInt8) : rec.take (49 * cnt rec.length) = rec := List.take_of_length_le (by unfold cnt; omega)

/-- Is a page right? -/
def Pg.right (p : Pg) : Bool := (p.ki == 2 || (p.ki == 1 && !p.fi && !p.la)) && decide (1 ≤ p.da.length) && decide (p.da.length ≤ 49)

theorem piece_right (ep : Nat) (rec : List UInt8) (k : Nat) (h : k < cnt rec.length) : (piece ep rec k).right = true := by
  have h1 := plen_pos _ _ h
  have h2 := plen_le rec.length k
  have h3 := chunk_length rec k
  unfold Pg.right piece
  rw [Bool.and_eq_true, Bool.and_eq_true]
  exact ⟨⟨rfl, decide_eq_true (by show 1 ≤ (chunk rec k).length; omega)⟩, decide_eq_true (by show (chunk rec k).length ≤ 49; omega)⟩

/-- What is begun. -/
structure Jn where
  be : Bool
  ep : Nat
  rc : List UInt8
  deriving DecidableEq

def Jn.zero : Jn := ⟨false, 0, []⟩

def Jn.fits (j : Jn) (p : Pg) : Bool := (p.fi != j.be) && (p.fi || p.ep == j.ep) && decide (j.rc.length + p.da.length ≤ 4096)

/-- A page is taken: the joiner then, what is told, is it, the error. -/
def Jn.take (j : Jn) (p : Pg) : Jn × List UInt8 × Bool × Int :=
  if p.right then
    if p.ki = 2 then
      if j.fits p then
        if p.la then (Jn.zero, j.rc ++ p.da, true, 0) else (⟨true, p.ep, j.rc ++ p.da⟩, [], false, 0)
      else (Jn.zero, [], false, 4)
    else (j, [], false, 0)
  else (j, [], false, 1)

/-- The joiner behind the first k pieces of a record. -/
def behind (ep : Nat) (rec : List UInt8) (k : Nat) : Jn := if k = 0 ∨ k = cnt rec.length then Jn.zero else ⟨true, ep, rec.take (49 * k)⟩

theorem take_piece (ep : Nat) (rec : List UInt8) (k : Nat) (h : k < cnt rec.length) (hl : rec.length ≤ 4096) :
    (behind ep rec k).take (piece ep rec k) = (behind ep rec (k + 1), if k + 1 = cnt rec.length then rec else [], k + 1 == cnt rec.length, 0) := by
  have hr := piece_right ep rec k h
  have hc := chunk_length rec k
  have hp := plen_le rec.length k
  have hfit : (behind ep rec k).fits (piece ep rec k) = true := by
    unfold Jn.fits behind piece
    by_cases h0 : k = 0
    · subst h0
      simp [Jn.zero]; omega
    · rw [if_neg (by omega)]
      have : 49 * k + (chunk rec k).length ≤ 4096 := by
        rw [hc]; unfold plen; unfold cnt at h; omega
      simp [h0]; omega
  unfold Jn.take
  rw [if_pos hr, if_pos (show (piece ep rec k).ki = 2 from rfl), if_pos hfit]
  have hrec : (behind ep rec k).rc ++ chunk rec k = rec.take (49 * (k + 1)) := by
    unfold behind
    by_cases h0 : k = 0
    · subst h0
      rw [if_pos (.inl rfl)]
      exact take_chunk rec 0
    · rw [if_neg (by omega)]
      exact take_chunk rec k
  by_cases hla : k + 1 = cnt rec.length
  · have : (piece ep rec k).la = true := by simp [piece, hla]
    rw [if_pos this, if_pos hla]
    have hb : behind ep rec (k + 1) = Jn.zero := by unfold behind; rw [if_pos (.inr hla)]
    rw [hb]
    show (Jn.zero, (behind ep rec k).rc ++ chunk rec k, true, (0 : Int)) = _
    rw [hrec, hla, take_all]; simp
  · have : (piece ep rec k).la = false := by simp [piece, hla]
    rw [if_neg (by rw [this]; decide), if_neg hla]
    have hb : behind ep rec (k + 1) = ⟨true, ep, rec.take (49 * (k + 1))⟩ := by unfold behind; rw [if_neg (by omega)]
    rw [hb]
    show ((⟨true, ep, (behind ep rec k).rc ++ chunk rec k⟩ : Jn), ([] : List UInt8), false, (0 : Int)) = _
    rw [hrec]
    have : (k + 1 == cnt rec.length) = false := by simp [hla]
    rw [this]
end Go.Proofs.Ytmaaljfcnnlnpaa
