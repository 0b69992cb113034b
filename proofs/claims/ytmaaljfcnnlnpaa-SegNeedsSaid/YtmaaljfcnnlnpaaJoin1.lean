/-
  The walks of page.Right and of the joiner's methods.
-/
import Derived.Test.YtmaaljfcnnlnpaaFragLaw1
namespace Go.Proofs.Ytmaaljfcnnlnpaa
open Go.RowKit

/-- A joiner that lies in memory. -/
structure JnAt (w : World) (b o : Nat) (j : Jn) : Prop where
  c0 : w.cell? ⟨b, o, none⟩ = some (.bool j.be)
  c1 : w.cell? ⟨b, o + 1, none⟩ = some (.int .u32 (j.ep : Int))
  c2 : w.cell? ⟨b, o + 2, none⟩ = some (.string ⟨j.rc.toArray⟩)

theorem JnAt.below {B : Nat} {W W' : World} {b o : Nat} {j : Jn} (h : JnAt W b o j) (hb : Below B W W') (hlt : b < B) : JnAt W' b o j :=
  ⟨(hb.cell (p := ⟨b, o, none⟩) hlt).trans h.c0, (hb.cell (p := ⟨b, o + 1, none⟩) hlt).trans h.c1, (hb.cell (p := ⟨b, o + 2, none⟩) hlt).trans h.c2⟩

set_option maxRecDepth 100000 in
set_option maxHeartbeats 2000000 in
theorem right_any (p : Pg) (hl : p.da.length ≤ maxLen) (w : World) :
    Calls Try.prog 49 #[.agg #[.int .u32 p.ep, .int .u32 p.nu, .int .i64 p.ki, .bool p.fi, .bool p.la, .string ⟨p.da.toArray⟩]] w fun r w' => r = .returned (.bool p.right) ∧ Below w.heap.size w w' := by
  obtain ⟨ep, nu, ki, fi, la, da⟩ := p
  have HR := Lib.hid (show Pg.right ⟨ep, nu, ki, fi, la, da⟩ = ((ki == 2 || (ki == 1 && !fi && !la)) && decide (1 ≤ da.length) && decide (da.length ≤ 49)) from rfl)
  have hsz : (ByteArray.mk da.toArray).size = da.length := by simp [ByteArray.size]
  have hb : ∀ o, Below w.heap.size w (w.alloc o) := fun o => (Below.refl _ _).alloc (Nat.le_refl _) _
  have HB := Lib.hid hb
  clear hb
  dsimp only at hl ⊢
  unfold maxLen at hl
  generalize Pg.right ⟨ep, nu, ki, fi, la, da⟩ = r at *
  by_cases hd : 1 ≤ da.length
  · by_cases hd2 : da.length ≤ 49
    · by_cases h2 : ki = 2
      · subst h2
        go_enter Try.func49, Try.ntmps49
        go_wp2_with fail
        go_ret
        exact ⟨by rw [HR.out]; simp [hd, hd2]; try omega, HB.out _⟩
      · by_cases h1 : ki = 1
        · subst h1
          cases fi
          · cases la
            · go_enter Try.func49, Try.ntmps49
              go_wp2_with fail
              go_ret
              exact ⟨by rw [HR.out]; simp [hd, hd2]; try omega, HB.out _⟩
            · go_enter Try.func49, Try.ntmps49
              go_wp2_with fail
              go_ret
              exact ⟨by rw [HR.out]; simp [hd, hd2]; try omega, HB.out _⟩
          · go_enter Try.func49, Try.ntmps49
            go_wp2_with fail
            go_ret
            exact ⟨by rw [HR.out]; simp [hd, hd2]; try omega, HB.out _⟩
        · go_enter Try.func49, Try.ntmps49
          go_wp2_with fail
          go_ret
          exact ⟨by rw [HR.out]; simp [hd, hd2]; try omega, HB.out _⟩
    · by_cases h2 : ki = 2
      · subst h2
        go_enter Try.func49, Try.ntmps49
        go_wp2_with fail
        go_ret
        exact ⟨by rw [HR.out]; simp [hd2]; try omega, HB.out _⟩
      · by_cases h1 : ki = 1
        · subst h1
          cases fi
          · cases la
            · go_enter Try.func49, Try.ntmps49
              go_wp2_with fail
              go_ret
              exact ⟨by rw [HR.out]; simp [hd2]; try omega, HB.out _⟩
            · go_enter Try.func49, Try.ntmps49
              go_wp2_with fail
              go_ret
              exact ⟨by rw [HR.out]; simp [hd, hd2]; try omega, HB.out _⟩
          · go_enter Try.func49, Try.ntmps49
            go_wp2_with fail
            go_ret
            exact ⟨by rw [HR.out]; simp [hd, hd2]; try omega, HB.out _⟩
        · go_enter Try.func49, Try.ntmps49
          go_wp2_with fail
          go_ret
          exact ⟨by rw [HR.out]; simp [hd, hd2]; try omega, HB.out _⟩
  · have hd0 : da = [] := List.eq_nil_of_length_eq_zero (by omega)
    subst hd0
    by_cases h2 : ki = 2
    · subst h2
      go_enter Try.func49, Try.ntmps49
      go_wp2_with fail
      go_ret
      exact ⟨by rw [HR.out]; simp, HB.out _⟩
    · by_cases h1 : ki = 1
      · subst h1
        cases fi
        · cases la
          · go_enter Try.func49, Try.ntmps49
            go_wp2_with fail
            go_ret
            exact ⟨by rw [HR.out]; simp, HB.out _⟩
          · go_enter Try.func49, Try.ntmps49
            go_wp2_with fail
            go_ret
            exact ⟨by rw [HR.out]; simp, HB.out _⟩
        · go_enter Try.func49, Try.ntmps49
          go_wp2_with fail
          go_ret
          exact ⟨by rw [HR.out]; simp, HB.out _⟩
      · go_enter Try.func49, Try.ntmps49
        go_wp2_with fail
        go_ret
        exact ⟨by rw [HR.out]; simp, HB.out _⟩
end Go.Proofs.Ytmaaljfcnnlnpaa
