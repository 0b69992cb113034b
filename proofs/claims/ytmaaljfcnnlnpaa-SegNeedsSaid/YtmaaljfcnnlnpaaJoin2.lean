/-
  The walks of the joiner's methods.
-/
import Derived.Test.YtmaaljfcnnlnpaaJoin1
namespace Go.Proofs.Ytmaaljfcnnlnpaa
open Go.RowKit

theorem _root_.Go.RowKit.Below.drewN {B : Nat} {a w : World} (h : Below B a w) (n : Nat) : Below B a (w.drewN n) := ⟨h.os, h.tape, h.output, h.size, h.block⟩

theorem JnAt.alloc {W : World} {b o : Nat} {j : Jn} (h : JnAt W b o j) (hlt : b < W.heap.size) (x : Obj) : JnAt (W.alloc x) b o j :=
  h.below ((Below.refl _ _).alloc (Nat.le_refl _) x) hlt

set_option maxRecDepth 100000 in
set_option maxHeartbeats 2000000 in
theorem begun_any (j : Jn) (b o : Nat) (w : World) (hj : JnAt w b o j) :
    Calls Try.prog 50 #[.pointer (some ⟨b, o, none⟩)] w fun r w' => r = .returned (.bool j.be) ∧ w = w' := by
  obtain ⟨k0, k1, k2⟩ := hj
  go_enter Try.func50, Try.ntmps50
  go_wp2_with fail
  go_ret
  exact ⟨rfl, rfl⟩

set_option maxRecDepth 100000 in
set_option maxHeartbeats 2000000 in
theorem fits_any (j : Jn) (p : Pg) (b o : Nat) (w : World) (hj : JnAt w b o j) (hb : b < w.heap.size) (h1 : j.rc.length ≤ 4096) (h2 : p.da.length ≤ 49) :
    Calls Try.prog 86 #[.pointer (some ⟨b, o, none⟩), .agg #[.int .u32 p.ep, .int .u32 p.nu, .int .i64 p.ki, .bool p.fi, .bool p.la, .string ⟨p.da.toArray⟩]] w fun r w' => r = .returned (.bool (j.fits p)) ∧ Below w.heap.size w w' := by
  obtain ⟨ep, nu, ki, fi, la, da⟩ := p
  obtain ⟨be, je, rc⟩ := j
  have HR := Lib.hid (show Jn.fits ⟨be, je, rc⟩ ⟨ep, nu, ki, fi, la, da⟩ = ((fi != be) && (fi || ep == je) && decide (rc.length + da.length ≤ 4096)) from rfl)
  generalize Jn.fits ⟨be, je, rc⟩ ⟨ep, nu, ki, fi, la, da⟩ = r at *
  have hsz : (ByteArray.mk da.toArray).size = da.length := by simp [ByteArray.size]
  have hsr : (ByteArray.mk rc.toArray).size = rc.length := by simp [ByteArray.size]
  have HB := Lib.hid (show ∀ x n, Below w.heap.size w ((w.alloc x).drewN n) from fun x n => ((Below.refl w.heap.size w).alloc (Nat.le_refl _) x).drewN n)
  have k0 : ∀ x, (w.alloc x).cell? ⟨b, o, none⟩ = some (.bool be) := fun x => (hj.alloc hb x).c0
  have k1 : ∀ x, (w.alloc x).cell? ⟨b, o + 1, none⟩ = some (.int .u32 (je : Int)) := fun x => (hj.alloc hb x).c1
  have k2 : ∀ x, (w.alloc x).cell? ⟨b, o + 2, none⟩ = some (.string ⟨rc.toArray⟩) := fun x => (hj.alloc hb x).c2
  clear hj
  dsimp only at h1 h2 ⊢
  cases fi <;> cases be
  · go_enter Try.func86, Try.ntmps86
    go_wp2_with fail
    go_quiet (fail)
    go_wp2_with fail
    go_ret
    exact ⟨by rw [HR.out]; simp []; try omega, HB.out _ _⟩
  · by_cases he : ep = je
    · subst he
      go_enter Try.func86, Try.ntmps86
      go_wp2_with fail
      go_quiet (fail)
      go_wp2_with fail
      go_ret
      exact ⟨by rw [HR.out]; simp []; try omega, HB.out _ _⟩
    · have he2 : ((ep : Int) == (je : Int)) = false := by rw [beq_eq_false_iff_ne]; omega
      go_enter Try.func86, Try.ntmps86
      go_wp2_with fail
      go_quiet (fail)
      go_wp2_with fail
      go_ret
      exact ⟨by rw [HR.out]; simp [he]; try omega, HB.out _ _⟩
  · go_enter Try.func86, Try.ntmps86
    go_wp2_with fail
    go_quiet (fail)
    go_wp2_with fail
    go_ret
    exact ⟨by rw [HR.out]; simp []; try omega, HB.out _ _⟩
  · go_enter Try.func86, Try.ntmps86
    go_wp2_with fail
    go_quiet (fail)
    go_wp2_with fail
    go_ret
    exact ⟨by rw [HR.out]; simp []; try omega, HB.out _ _⟩
end Go.Proofs.Ytmaaljfcnnlnpaa
