/-
  A disk, as lists and functions. Nothing of the program is named here.
-/
namespace Go.Proofs.Ytmaaljfcnnlnpaa

abbrev Wr := Int × List UInt8

/-- A disk. -/
structure Dk where
  size : Int
  sure : Int → List UInt8
  loose : List Wr
  down : Bool
  fuse : Int
  reads : Int → Int

def put (f : Int → List UInt8) (i : Int) (p : List UInt8) : Int → List UInt8 := fun j => if j = i then p else f j

theorem put_same (f : Int → List UInt8) (i : Int) (p : List UInt8) : put f i p i = p := if_pos rfl
theorem put_other (f : Int → List UInt8) (i j : Int) (p : List UInt8) (h : j ≠ i) : put f i p j = f j := if_neg h

/-- The newest write of a sector. -/
def lastAt : List Wr → Int → Option (List UInt8)
  | [], _ => none
  | x :: l, i => match lastAt l i with
    | some p => some p
    | none => if x.1 = i then some x.2 else none

def Dk.seen (D : Dk) (i : Int) : List UInt8 := (lastAt D.loose i).getD (D.sure i)

theorem lastAt_append (l : List Wr) (x : Wr) (i : Int) : lastAt (l ++ [x]) i = if x.1 = i then some x.2 else lastAt l i := by
  induction l with
  | nil => simp [lastAt]
  | cons y l ih =>
    show (match lastAt (l ++ [x]) i with | some p => some p | none => if y.1 = i then some y.2 else none) = _
    rw [ih]
    by_cases h : x.1 = i
    · simp [h]
    · simp [h, lastAt]

theorem lastAt_app (a b : List Wr) (i : Int) : lastAt (a ++ b) i = match lastAt b i with | some p => some p | none => lastAt a i := by
  induction a with
  | nil =>
    show lastAt b i = _
    cases lastAt b i <;> rfl
  | cons x a ih =>
    show (match lastAt (a ++ b) i with | some p => some p | none => if x.1 = i then some x.2 else none) = _
    rw [ih]
    cases lastAt b i <;> rfl

theorem lastAt_of_drop (l : List Wr) (k : Nat) (i : Int) (p : List UInt8) (h : lastAt (l.drop k) i = some p) : lastAt l i = some p := by
  rw [← List.take_append_drop k l, lastAt_app, h]

/-- The loose writes that are kept are made sure. -/
def stl (k : Nat → Bool) (l : List Wr) (f : Int → List UInt8) : Int → List UInt8 :=
  l.zipIdx.foldl (fun f x => if k x.2 then put f x.1.1 x.1.2 else f) f

theorem stl_nil (k : Nat → Bool) (f : Int → List UInt8) : stl k [] f = f := rfl

theorem stl_snoc (k : Nat → Bool) (l : List Wr) (x : Wr) (f : Int → List UInt8) : stl k (l ++ [x]) f = if k l.length then put (stl k l f) x.1 x.2 else stl k l f := by
  unfold stl
  rw [List.zipIdx_append, List.foldl_append]
  simp

theorem stl_take (k : Nat → Bool) (l : List Wr) (j : Nat) (hj : j < l.length) (f : Int → List UInt8) :
    stl k (l.take (j + 1)) f = if k j then put (stl k (l.take j) f) l[j].1 l[j].2 else stl k (l.take j) f := by
  rw [List.take_succ_eq_append_getElem hj, stl_snoc]
  have : (l.take j).length = j := by simp; omega
  rw [this]

/-- Kept whole, what is read is what was written last. -/
theorem seen_all (l : List Wr) (f : Int → List UInt8) (i : Int) : (lastAt l i).getD (f i) = stl (fun _ => true) l f i := by
  suffices h : ∀ r : List Wr, (lastAt r.reverse i).getD (f i) = stl (fun _ => true) r.reverse f i by simpa using h l.reverse
  intro r
  induction r with
  | nil => rfl
  | cons x r ih =>
    rw [List.reverse_cons, lastAt_append, stl_snoc]
    simp only [if_true]
    by_cases h : x.1 = i
    · rw [if_pos h, ← h, put_same]; rfl
    · rw [if_neg h, put_other _ _ _ _ (Ne.symm h)]; exact ih

theorem stl_len (k : Nat → Bool) (f : Int → List UInt8) (hf : ∀ i, (f i).length = 64) : ∀ l : List Wr, (∀ x ∈ l, x.2.length = 64) → ∀ i, (stl k l f i).length = 64 := by
  intro l
  suffices h : ∀ r : List Wr, (∀ x ∈ r, x.2.length = 64) → ∀ i, (stl k r.reverse f i).length = 64 by
    intro hl
    have := h l.reverse (fun x hx => hl x (List.mem_reverse.1 hx))
    simpa using this
  intro r
  induction r with
  | nil => intro _ i; exact hf i
  | cons x r ih =>
    intro hr i
    rw [List.reverse_cons, stl_snoc]
    have ih := ih (fun y hy => hr y (.tail _ hy))
    split
    · unfold put
      split
      · exact hr x (.head _)
      · exact ih i
    · exact ih i

theorem lastAt_len (l : List Wr) (hl : ∀ x ∈ l, x.2.length = 64) (i : Int) (p : List UInt8) (h : lastAt l i = some p) : p.length = 64 := by
  induction l with
  | nil => cases h
  | cons x l ih =>
    unfold lastAt at h
    rcases hl2 : lastAt l i with _ | q
    · rw [hl2] at h
      simp only at h
      split at h
      · cases h; exact hl x (.head _)
      · cases h
    · rw [hl2] at h
      cases h
      exact ih (fun y hy => hl y (.tail _ hy)) hl2

def Dk.may (D : Dk) (i : Int) : Nat := if D.down then 7 else if i < 0 ∨ D.size ≤ i then 1 else 0
def Dk.burnt (D : Dk) : Dk := { D with fuse := max (D.fuse - 1) (-1) }
def Dk.wrote (D : Dk) (i : Int) (p : List UInt8) : Dk := { D with loose := D.loose ++ [(i, p)] }
def Dk.settled (D : Dk) (k : Nat → Bool) : Dk := { D with sure := stl k D.loose D.sure, loose := [] }

/-- Its pages are pages. -/
structure Dk.ok (D : Dk) : Prop where
  sure : ∀ i, (D.sure i).length = 64
  loose : ∀ x ∈ D.loose, x.2.length = 64

theorem Dk.ok.seen {D : Dk} (h : D.ok) (i : Int) : (D.seen i).length = 64 := by
  unfold Dk.seen
  rcases hl : lastAt D.loose i with _ | p
  · exact h.sure i
  · exact lastAt_len _ h.loose i p hl

theorem Dk.ok.wrote {D : Dk} (h : D.ok) (i : Int) (p : List UInt8) (hp : p.length = 64) : (D.wrote i p).ok :=
  ⟨h.sure, fun x hx => by
    rcases List.mem_append.1 hx with h1 | h1
    · exact h.loose x h1
    · rw [List.mem_singleton.1 h1]; exact hp⟩

theorem Dk.ok.settled {D : Dk} (h : D.ok) (k : Nat → Bool) : (D.settled k).ok := ⟨fun i => stl_len k D.sure h.sure D.loose h.loose i, fun x hx => by cases hx⟩
end Go.Proofs.Ytmaaljfcnnlnpaa
