/-
  The disk and the document's disk, side by side: plain lists and functions.
-/
import Derived.Test.YtmaaljfcnnlnpaaRefDisk3
namespace Go.Proofs.Ytmaaljfcnnlnpaa
open Go.RowKit

def Rf.write (r : Rf) (i : Int) (p : List UInt8) : Rf × Nat :=
  if r.down = true then (r, 7) else if i < 0 ∨ (r.sure.length : Int) ≤ i then (r, 1) else if r.fuse = 0 then (r, 6)
  else ({ r with seen := r.seen.set i.toNat p, at_ := r.at_ ++ [i], what := r.what ++ [p], fuse := fuseDn r.fuse }, 0)

/-- The writes that are kept, one behind the other. -/
def crs (ks : Nat → Bool) (at_ : List Int) (what s : List (List UInt8)) : Nat → List (List UInt8)
  | 0 => s
  | j + 1 => if ks j = true then (crs ks at_ what s j).set (at_.getD j 0).toNat (what.getD j []) else crs ks at_ what s j

theorem crs_length (ks : Nat → Bool) (at_ : List Int) (what s : List (List UInt8)) : ∀ j, (crs ks at_ what s j).length = s.length
  | 0 => rfl
  | j + 1 => by
    show (if ks j = true then _ else _ : List (List UInt8)).length = _
    split
    · rw [List.length_set]; exact crs_length ks at_ what s j
    · exact crs_length ks at_ what s j

def Rf.crash (r : Rf) (ks : Nat → Bool) : Rf :=
  { sure := crs ks r.at_ r.what r.sure r.at_.length, seen := crs ks r.at_ r.what r.sure r.at_.length, at_ := [], what := [], down := true, fuse := r.fuse }

def Dk.writeR (D : Dk) (i : Int) (p : List UInt8) : Dk × Nat :=
  if D.down = true then (D, 7) else if i < 0 ∨ D.size ≤ i then (D, 1) else if D.fuse = 0 then (D, 6) else (D.burnt.wrote i p, 0)
def Dk.syncR (D : Dk) : Dk × Nat :=
  if D.down = true then (D, 7) else if D.fuse = 0 then (D, 6) else (D.burnt.settled fun _ => true, 0)

/-- The two disks hold the same. -/
structure RI (n : Nat) (D : Dk) (r : Rf) (m : Nat) : Prop where
  size : D.size = n
  s1 : r.sure.length = n
  s2 : r.seen.length = n
  p1 : ∀ k, k < n → r.sure[k]? = some (D.sure k)
  p2 : ∀ k, k < n → r.seen[k]? = some (D.seen k)
  at_ : r.at_ = D.loose.map Prod.fst
  what : r.what = D.loose.map Prod.snd
  inn : ∀ x ∈ D.loose, 0 ≤ x.1 ∧ x.1 < n
  down : D.down = r.down
  fuse : D.fuse = r.fuse
  f1 : -1 ≤ r.fuse ∧ r.fuse ≤ 9223372036854775807
  few : D.loose.length ≤ m
  ok : D.ok

theorem RI.new (n : Nat) : RI n (Dk.new n) (Rf.new n) 0 := by
  refine ⟨rfl, List.length_replicate, List.length_replicate, fun k hk => ?_, fun k hk => ?_, rfl, rfl, fun x hx => (by cases hx), rfl, rfl, by show -1 ≤ (-1 : Int) ∧ (-1 : Int) ≤ _; omega, Nat.le_refl _, ⟨fun _ => rfl, fun x hx => by cases hx⟩⟩
  · show (List.replicate n zero64)[k]? = _
    rw [List.getElem?_replicate, if_pos hk]; rfl
  · show (List.replicate n zero64)[k]? = _
    rw [List.getElem?_replicate, if_pos hk]; rfl

section
variable {n m : Nat} {D : Dk} {r : Rf}
theorem RI.up (h : RI n D r m) : RI n { D with down := false } { r with down := false } (m + 1) :=
  ⟨h.size, h.s1, h.s2, h.p1, h.p2, h.at_, h.what, h.inn, rfl, h.fuse, h.f1, Nat.le_succ_of_le h.few, ⟨h.ok.sure, h.ok.loose⟩⟩
theorem RI.fused (h : RI n D r m) (f : Int) (hf : f ≤ 9223372036854775807) : RI n { D with fuse := max f (-1) } { r with fuse := max f (-1) } (m + 1) :=
  ⟨h.size, h.s1, h.s2, h.p1, h.p2, h.at_, h.what, h.inn, h.down, rfl, by show -1 ≤ max f (-1) ∧ max f (-1) ≤ _; omega, Nat.le_succ_of_le h.few, ⟨h.ok.sure, h.ok.loose⟩⟩
theorem RI.read (h : RI n D r m) (i : Int) : RI n (D.read i) r m :=
  ⟨h.size, h.s1, h.s2, h.p1, h.p2, h.at_, h.what, h.inn, h.down, h.fuse, h.f1, h.few, ⟨h.ok.sure, h.ok.loose⟩⟩
theorem RI.more (h : RI n D r m) : RI n D r (m + 1) :=
  ⟨h.size, h.s1, h.s2, h.p1, h.p2, h.at_, h.what, h.inn, h.down, h.fuse, h.f1, Nat.le_succ_of_le h.few, h.ok⟩

theorem burnt_fuse (f : Int) (h : -1 ≤ f) (h0 : f ≠ 0) : max (f - 1) (-1) = fuseDn f := by
  unfold fuseDn
  split <;> omega
theorem fuseDn_range {f : Int} (h : -1 ≤ f ∧ f ≤ 9223372036854775807) : -1 ≤ fuseDn f ∧ fuseDn f ≤ 9223372036854775807 := by
  unfold fuseDn
  split <;> omega

theorem RI.write (h : RI n D r m) (i : Int) (p : List UInt8) (hp : p.length = 64) : RI n (D.writeR i p).1 (r.write i p).1 (m + 1) ∧ (D.writeR i p).2 = (r.write i p).2 := by
  unfold Dk.writeR Rf.write
  rw [h.down, h.size, h.s1, h.fuse]
  by_cases h1 : r.down = true
  · rw [if_pos h1, if_pos h1]; exact ⟨h.more, rfl⟩
  rw [if_neg h1, if_neg h1]
  by_cases h2 : i < 0 ∨ (n : Int) ≤ i
  · rw [if_pos h2, if_pos h2]; exact ⟨h.more, rfl⟩
  rw [if_neg h2, if_neg h2]
  by_cases h3 : r.fuse = 0
  · rw [if_pos h3, if_pos h3]; exact ⟨h.more, rfl⟩
  rw [if_neg h3, if_neg h3]
  refine ⟨⟨h.size, h.s1, ?_, h.p1, fun k hk => ?_, ?_, ?_, fun x hx => ?_, h.down, ?_, fuseDn_range h.f1, ?_, ?_⟩, rfl⟩
  · show (r.seen.set _ _).length = n
    rw [List.length_set]; exact h.s2
  · show (r.seen.set i.toNat p)[k]? = some ((lastAt (D.loose ++ [(i, p)]) k).getD (D.sure k))
    rw [lastAt_append]
    by_cases e : i = (k : Int)
    · rw [if_pos e]
      have e2 : i.toNat = k := by omega
      rw [e2, List.getElem?_set_self (by rw [h.s2]; exact hk)]
      rfl
    · rw [if_neg e, List.getElem?_set_ne (by omega)]
      exact h.p2 k hk
  · show r.at_ ++ [i] = (D.loose ++ [(i, p)]).map Prod.fst
    rw [List.map_append, h.at_]; rfl
  · show r.what ++ [p] = (D.loose ++ [(i, p)]).map Prod.snd
    rw [List.map_append, h.what]; rfl
  · rcases List.mem_append.1 hx with hx | hx
    · exact h.inn x hx
    · obtain rfl := List.mem_singleton.1 hx
      show 0 ≤ i ∧ i < (n : Int)
      omega
  · show max (D.fuse - 1) (-1) = fuseDn r.fuse
    rw [h.fuse]; exact burnt_fuse _ h.f1.1 h3
  · show (D.loose ++ [(i, p)]).length ≤ m + 1
    rw [List.length_append]
    have := h.few
    simp only [List.length_cons, List.length_nil]
    omega
  · exact Dk.ok.wrote (D := D.burnt) ⟨h.ok.sure, h.ok.loose⟩ i p hp

theorem RI.sync (h : RI n D r m) : RI n D.syncR.1 r.sync.1 (m + 1) ∧ D.syncR.2 = r.sync.2 := by
  unfold Dk.syncR Rf.sync
  rw [h.down, h.fuse]
  by_cases h1 : r.down = true
  · rw [if_pos h1, if_pos h1]; exact ⟨h.more, rfl⟩
  rw [if_neg h1, if_neg h1]
  by_cases h3 : r.fuse = 0
  · rw [if_pos h3, if_pos h3]; exact ⟨h.more, rfl⟩
  rw [if_neg h3, if_neg h3]
  have hs : ∀ k : Nat, k < n → r.seen[k]? = some (stl (fun _ => true) D.loose D.sure k) := fun k hk => by
    rw [← seen_all]
    exact h.p2 k hk
  refine ⟨⟨h.size, h.s2, h.s2, hs, hs, rfl, rfl, fun x hx => (by cases hx), h.down, ?_, fuseDn_range h.f1, Nat.zero_le _, ?_⟩, rfl⟩
  · show max (D.fuse - 1) (-1) = fuseDn r.fuse
    rw [h.fuse]; exact burnt_fuse _ h.f1.1 h3
  · exact Dk.ok.settled (D := D.burnt) ⟨h.ok.sure, h.ok.loose⟩ _

theorem RI.crash (h : RI n D r m) (ks : Nat → Bool) : RI n { D.settled ks with down := true } (r.crash ks) (m + 1) := by
  have hs : ∀ j, j ≤ D.loose.length → ∀ k : Nat, k < n → (crs ks r.at_ r.what r.sure j)[k]? = some (stl ks (D.loose.take j) D.sure k) := by
    intro j
    induction j with
    | zero => intro _ k hk; exact h.p1 k hk
    | succ j ih =>
      intro hj k hk
      have hj2 : j < D.loose.length := by omega
      rw [stl_take _ _ _ hj2]
      show (if ks j = true then (crs ks r.at_ r.what r.sure j).set (r.at_.getD j 0).toNat (r.what.getD j []) else crs ks r.at_ r.what r.sure j)[k]? = _
      by_cases hk2 : ks j = true
      · rw [if_pos hk2, if_pos hk2]
        have e1 : r.at_.getD j 0 = D.loose[j].1 := by rw [h.at_]; simp [hj2]
        have e2 : r.what.getD j [] = D.loose[j].2 := by rw [h.what]; simp [hj2]
        have hin := h.inn _ (List.getElem_mem hj2)
        rw [e1, e2]
        by_cases e : D.loose[j].1 = (k : Int)
        · have e3 : D.loose[j].1.toNat = k := by omega
          rw [e3, e, put_same, List.getElem?_set_self (by rw [crs_length, h.s1]; exact hk)]
        · rw [put_other _ _ _ _ (Ne.symm e), List.getElem?_set_ne (by omega)]
          exact ih (by omega) k hk
      · rw [if_neg hk2, if_neg hk2]
        exact ih (by omega) k hk
  have hl : r.at_.length = D.loose.length := by rw [h.at_, List.length_map]
  have hs2 : ∀ k : Nat, k < n → (crs ks r.at_ r.what r.sure r.at_.length)[k]? = some (stl ks D.loose D.sure k) := fun k hk => by
    have := hs D.loose.length (Nat.le_refl _) k hk
    rw [List.take_length] at this
    rw [hl]; exact this
  have hl2 : (crs ks r.at_ r.what r.sure r.at_.length).length = n := by rw [crs_length, h.s1]
  exact ⟨h.size, hl2, hl2, hs2, hs2, rfl, rfl, fun x hx => (by cases hx), rfl, h.fuse, h.f1, Nat.zero_le _, ⟨(h.ok.settled ks).sure, fun x hx => by cases hx⟩⟩
end

section
variable {w W : World} {d m1 m2 : Nat} {D : Dk} {l : List Nat}
theorem may_down {D : Dk} (h : D.down = true) (i : Int) : D.may i = 7 := if_pos h
theorem may_arg {D : Dk} (h : ¬ D.down = true) {i : Int} (hi : i < 0 ∨ D.size ≤ i) : D.may i = 1 := (if_neg h).trans (if_pos hi)
theorem may_ok {D : Dk} (h : ¬ D.down = true) {i : Int} (hi : ¬ (i < 0 ∨ D.size ≤ i)) : D.may i = 0 := (if_neg h).trans (if_neg hi)

theorem ds_writeR (h : DS w W d m1 m2 D l) (i : Int) (p : List UInt8) (hp : p.length = 64) (hf : -1 ≤ D.fuse ∧ D.fuse ≤ 9223372036854775807) (hlen : D.loose.length ≤ 100000) :
    Calls Try.prog 54 #[.pointer (some ⟨d, 0, none⟩), .int .i64 i, .agg (p.map bv).toArray] W fun r w' => r = .returned (.int .i64 ((D.writeR i p).2 : Nat)) ∧ DS w w' d m1 m2 (D.writeR i p).1 l ∧ Stays W w' l := by
  unfold Dk.writeR
  by_cases h1 : D.down = true
  · rw [if_pos h1]
    have := ds_write_no h i p (by rw [may_down h1]; decide)
    rwa [may_down h1] at this
  rw [if_neg h1]
  by_cases h2 : i < 0 ∨ D.size ≤ i
  · rw [if_pos h2]
    have := ds_write_no h i p (by rw [may_arg h1 h2]; decide)
    rwa [may_arg h1 h2] at this
  rw [if_neg h2]
  by_cases h3 : D.fuse = 0
  · rw [if_pos h3]
    exact ds_write_fused h i p (may_ok h1 h2) h3
  rw [if_neg h3]
  exact ds_write h i p hp (may_ok h1 h2) h3 hf hlen

theorem ds_syncR (h : DS w W d m1 m2 D l) (hs : 1 ≤ D.size) (hf : -1 ≤ D.fuse ∧ D.fuse ≤ 9223372036854775807) (hlen : D.loose.length ≤ 100000) :
    Calls Try.prog 64 #[.pointer (some ⟨d, 0, none⟩)] W fun r w' => r = .returned (.int .i64 (D.syncR.2 : Nat)) ∧ DS w w' d m1 m2 D.syncR.1 l ∧ Stays W w' l := by
  unfold Dk.syncR
  by_cases h1 : D.down = true
  · rw [if_pos h1]
    have := ds_sync_no h (by rw [may_down h1]; decide)
    rwa [may_down h1] at this
  rw [if_neg h1]
  have h2 : ¬ ((0 : Int) < 0 ∨ D.size ≤ 0) := by omega
  by_cases h3 : D.fuse = 0
  · rw [if_pos h3]
    exact ds_sync_fused h (may_ok h1 h2) h3
  rw [if_neg h3]
  exact ds_sync h (may_ok h1 h2) h3 hf hlen
end
end Go.Proofs.Ytmaaljfcnnlnpaa
