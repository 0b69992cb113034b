/-
  The walks of the document's Right, four and Read of a page.
-/
import Derived.Test.YtmaaljfcnnlnpaaPageLaw4
namespace Go.Proofs.Ytmaaljfcnnlnpaa
open Go.RowKit

set_option maxRecDepth 100000 in
set_option maxHeartbeats 4000000 in
theorem refright17 (p : Pg) (hl : p.da.length ≤ maxLen) (w : World) :
    Calls Try.prog 61 #[.agg #[.int .u32 p.ep, .int .u32 p.nu, .int .i64 p.ki, .bool p.fi, .bool p.la, .string ⟨p.da.toArray⟩]] w fun r w' => r = .returned (.bool p.right) ∧ Below w.heap.size w w' := by
  obtain ⟨ep, nu, ki, fi, la, da⟩ := p
  have HR := Lib.hid (show Pg.right ⟨ep, nu, ki, fi, la, da⟩ = ((ki == 2 || (ki == 1 && !fi && !la)) && decide (1 ≤ da.length) && decide (da.length ≤ 49)) from rfl)
  have hsz : (ByteArray.mk da.toArray).size = da.length := by simp [ByteArray.size]
  have hb : ∀ o, Below w.heap.size w (w.alloc o) := fun o => (Below.refl _ _).alloc (Nat.le_refl _) _
  have HB := Lib.hid hb
  clear hb
  dsimp only at hl ⊢
  unfold maxLen at hl
  generalize Pg.right ⟨ep, nu, ki, fi, la, da⟩ = r at *
  by_cases hd : 1 ≤ da.length
  · by_cases hd2 : da.length ≤ 49
    · by_cases h2 : ki = 2
      · subst h2
        go_enter Try.func61, Try.ntmps61
        go_wp2_with fail
        go_ret
        exact ⟨by rw [HR.out]; simp [hd, hd2]; try omega, HB.out _⟩
      · by_cases h1 : ki = 1
        · subst h1
          cases fi
          · cases la
            · go_enter Try.func61, Try.ntmps61
              go_wp2_with fail
              go_ret
              exact ⟨by rw [HR.out]; simp [hd, hd2]; try omega, HB.out _⟩
            · go_enter Try.func61, Try.ntmps61
              go_wp2_with fail
              go_ret
              exact ⟨by rw [HR.out]; simp [hd, hd2]; try omega, HB.out _⟩
          · go_enter Try.func61, Try.ntmps61
            go_wp2_with fail
            go_ret
            exact ⟨by rw [HR.out]; simp [hd, hd2]; try omega, HB.out _⟩
        · have hk2 : (ki == 2) = false := by simpa using h2
          have hk1 : (ki == 1) = false := by simpa using h1
          go_enter Try.func61, Try.ntmps61
          go_wp2_with fail
          go_ret
          exact ⟨by rw [HR.out, hk1, hk2]; simp, HB.out _⟩
    · go_enter Try.func61, Try.ntmps61
      go_wp2_with fail
      go_ret
      exact ⟨by rw [HR.out]; simp [hd2], HB.out _⟩
  · go_enter Try.func61, Try.ntmps61
    go_wp2_with fail
    go_ret
    exact ⟨by rw [HR.out]; simp [hd], HB.out _⟩

theorem numP_at (bs : List UInt8) (k : Nat) (h : k + 3 < bs.length) :
    numP (bs.drop k) = (bs.getD k 0).toNat + 256 * (bs.getD (k + 1) 0).toNat + 65536 * (bs.getD (k + 2) 0).toNat + 16777216 * (bs.getD (k + 3) 0).toNat := by
  unfold numP
  rw [List.drop_eq_getElem_cons (by omega), List.drop_eq_getElem_cons (by omega), List.drop_eq_getElem_cons (by omega), List.drop_eq_getElem_cons (by omega)]
  simp only [List.take_succ_cons, List.take_zero, CrcP.num, List.getD_eq_getElem?_getD]
  rw [List.getElem?_eq_getElem (by omega), List.getElem?_eq_getElem (by omega), List.getElem?_eq_getElem (by omega), List.getElem?_eq_getElem (by omega)]
  simp only [Option.getD_some]
  show bs[k].toNat + 256 * (bs[k + 2 - 1].toNat + 256 * (bs[k + 2].toNat + 256 * (bs[k + 3].toNat + 256 * 0))) = bs[k].toNat + 256 * bs[k + 2 - 1].toNat + 65536 * bs[k + 2].toNat + 16777216 * bs[k + 3].toNat
  omega

set_option maxRecDepth 100000 in
set_option maxHeartbeats 4000000 in
theorem ref93_any (bs : List UInt8) (hl : bs.length = 64) (k : Nat) (h : k + 3 < 64) (w : World) :
    Calls Try.prog 93 #[.agg (bs.map bv).toArray, .int .i64 k] w fun r w' => r = .returned (.int .u32 (numP (bs.drop k))) ∧ Below w.heap.size w w' := by
  have S0 := BO.start w bs hl 55
  have c0 := S0.buf.cell_of k _ (by omega) rfl
  have c1 := S0.buf.cell_of (k + 1) _ (by omega) rfl
  have c2 := S0.buf.cell_of (k + 2) _ (by omega) rfl
  have c3 := S0.buf.cell_of (k + 3) _ (by omega) rfl
  have HN := Lib.hid (numP_at bs k (by omega))
  have b0 : (bs.getD k 0).toNat < 256 := (bs.getD k 0).toNat_lt
  have b1 : (bs.getD (k + 1) 0).toNat < 256 := (bs.getD (k + 1) 0).toNat_lt
  have b2 : (bs.getD (k + 2) 0).toNat < 256 := (bs.getD (k + 2) 0).toNat_lt
  have b3 : (bs.getD (k + 3) 0).toNat < 256 := (bs.getD (k + 3) 0).toNat_lt
  have HS0 := Lib.hid S0
  clear S0
  generalize (bs.getD k 0).toNat = x0 at *
  generalize (bs.getD (k + 1) 0).toNat = x1 at *
  generalize (bs.getD (k + 2) 0).toNat = x2 at *
  generalize (bs.getD (k + 3) 0).toNat = x3 at *
  go_enter Try.func93, Try.ntmps93
  go_wp2_with fail
  go_quiet (fail)
  go_wp2_with fail
  go_ret
  exact ⟨ret_int (by rw [HN.out]; omega), HS0.out.below.trans ⟨rfl, rfl, rfl, Nat.le_refl _, fun _ _ => rfl⟩⟩

end Go.Proofs.Ytmaaljfcnnlnpaa
