/-
  The walks of a state's reader.
-/
import Derived.Test.YtmaaljfcnnlnpaaState2
import Derived.Test.YtmaaljfcnnlnpaaPageWalk3
import Derived.Test.YtmaaljfcnnlnpaaPageTheory
namespace Go.Proofs.Ytmaaljfcnnlnpaa
open Go.RowKit

/-- A word, as a number with a sign. -/
def sgn (n : Nat) : Int := if (n : Int) < 2147483648 then n else (n : Int) - 4294967296

theorem sgn_wrap (n : Nat) (h : n < 4294967296) : IntKind.i32.wrap (n : Int) = sgn n := by
  rw [IntKind.wrap_i32]
  unfold sgn
  split <;> omega
theorem sgn_wrap64 (n : Nat) (h : n < 4294967296) : IntKind.i64.wrap (sgn n) = sgn n := by
  rw [IntKind.wrap_i64]
  unfold sgn
  split <;> omega

set_option maxRecDepth 100000 in
set_option maxHeartbeats 2000000 in
theorem rnum {W : World} {rb : Nat} {L : List UInt8} (hc : W.cell? ⟨rb, 0, none⟩ = some (.string ⟨L.toArray⟩)) (hf : W.frozen? ⟨rb, 0, none⟩ = false) (h4 : 4 ≤ L.length) (hL : L.length ≤ 1000) :
    Calls Try.prog 107 #[.pointer (some ⟨rb, 0, none⟩)] W fun r w' => r = .returned (.int .i64 (sgn (numP L))) ∧ w' = W.setCell ⟨rb, 0, none⟩ (.string ⟨(L.drop 4).toArray⟩) := by
  have hsz : (⟨L.toArray⟩ : ByteArray).size = L.length := rfl
  have hn : numP L < 4294967296 := numP_lt L
  have N := Lib.hid (number_any ⟨L.toArray⟩ (by rw [hsz]; unfold maxLen; omega) W)
  have hs4 : ∀ W, (Instr.slice 9 (.string ⟨L.toArray⟩) (some (.int .i64 4)) none none).run Try.prog W = .ok (.string ⟨(L.drop 4).toArray⟩) W := fun W => by
    rw [run_str_from _ 4 (by decide) (by rw [hsz]; omega) W, show (4 : Int).toNat = 4 from rfl, extract_drop]
  have hw1 := sgn_wrap _ hn
  have hw2 := sgn_wrap64 _ hn
  have e : (⟨L.toArray⟩ : ByteArray).data.toList = L := rfl
  rw [e] at N
  clear e
  generalize numP L = n at *
  generalize sgn n = s at *
  go_enter Try.func107, Try.ntmps107
  go_wp2_with fail
  refine N.out.mono ?_
  rintro r w1 ⟨rfl, rfl⟩
  go_wp2_with fail
  go_ret
  exact ⟨rfl, rfl⟩

set_option maxRecDepth 100000 in
set_option maxHeartbeats 2000000 in
theorem rone {W : World} {rb : Nat} {L : List UInt8} (hc : W.cell? ⟨rb, 0, none⟩ = some (.string ⟨L.toArray⟩)) (hf : W.frozen? ⟨rb, 0, none⟩ = false) (h4 : 0 < L.length) (hL : L.length ≤ 1000) :
    Calls Try.prog 108 #[.pointer (some ⟨rb, 0, none⟩)] W fun r w' => r = .returned (.int .i64 ((L.getD 0 0).toNat : Nat)) ∧ w' = W.setCell ⟨rb, 0, none⟩ (.string ⟨(L.drop 1).toArray⟩) := by
  have hsz : (⟨L.toArray⟩ : ByteArray).size = L.length := rfl
  have hs4 : ∀ W, (Instr.slice 9 (.string ⟨L.toArray⟩) (some (.int .i64 1)) none none).run Try.prog W = .ok (.string ⟨(L.drop 1).toArray⟩) W := fun W => by
    rw [run_str_from _ 1 (by decide) (by rw [hsz]; omega) W, show (1 : Int).toNat = 1 from rfl, extract_drop]
  obtain ⟨x, hx⟩ : ∃ x, L.getD 0 0 = x := ⟨_, rfl⟩
  have hix : ∀ W, (Instr.index 9 (.string ⟨L.toArray⟩) (.int .i64 0)).run Try.prog W = .ok (.int .u8 (x.toNat : Nat)) W := fun W => by
    rw [run_index_string W 9 _ .i64 0 Try.underlying9]
    cases L with
    | nil => cases h4
    | cons y l =>
      obtain rfl : y = x := hx
      rw [dif_pos ⟨by omega, by rw [hsz]; omega⟩]
      rfl
  have hw := wrap_small x.toNat (by have := x.toNat_lt; omega)
  rw [hx]
  clear hx
  go_enter Try.func108, Try.ntmps108
  go_wp2_with fail
  go_ret
  exact ⟨rfl, by rw [List.drop_one]⟩
end Go.Proofs.Ytmaaljfcnnlnpaa
