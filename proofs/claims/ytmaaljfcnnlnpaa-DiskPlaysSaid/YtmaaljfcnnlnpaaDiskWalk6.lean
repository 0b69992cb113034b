/-
  The walks of a disk's Sync and Crash, and of the methods of no disk.
-/
import Derived.Test.YtmaaljfcnnlnpaaDiskWalk5
namespace Go.Proofs.Ytmaaljfcnnlnpaa
open Go.RowKit

/-- A row of booleans. -/
def KeepAt (W : World) (kv : Value) (n : Nat) (ks : Nat → Bool) : Prop :=
  ∃ (a : Option Addr) (cap : Nat), kv = .slice a n cap ∧ (n = 0 ∨ ∃ b o, a = some ⟨b, o, none⟩ ∧ ∀ i, i < n → W.cell? ⟨b, o + i, none⟩ = some (.bool (ks i)))

theorem KeepAt.empty (W : World) (ks : Nat → Bool) : KeepAt W (.slice none 0 0) 0 ks := ⟨_, 0, rfl, .inl rfl⟩

def kept (n : Nat) (ks : Nat → Bool) : Nat → Bool := fun i => decide (i < n) && ks i

set_option maxRecDepth 100000 in
set_option maxHeartbeats 4000000 in
theorem crash1_any {X : World} {kv : Value} {n : Nat} {ks : Nat → Bool} (hk : KeepAt X kv n ks) (bk m : Nat) (hc : X.cell? ⟨bk, 0, none⟩ = some kv) :
    Calls Try.prog 92 #[.int .i64 (m : Nat), .pointer (some ⟨bk, 0, none⟩)] X fun r w' => r = .returned (.bool (kept n ks m)) ∧ X = w' := by
  obtain ⟨a, cap, rfl, h⟩ := hk
  by_cases hm : m < n
  · rcases h with h | ⟨b, o, rfl, h⟩
    · omega
    have c := h m hm
    have hv := Lib.hid (show kept n ks m = ks m by simp [kept, hm])
    generalize kept n ks m = r at *
    generalize ks m = s at *
    clear h
    have hi : (m : Int) < (n : Int) := by omega
    go_enter Try.func92, Try.ntmps92
    go_wp2
    go_ret
    exact ⟨by rw [hv.out]; rfl, rfl⟩
  · have hv := Lib.hid (show kept n ks m = false by simp [kept, hm])
    generalize kept n ks m = r at *
    clear h
    have hi : ¬ (m : Int) < (n : Int) := by omega
    go_enter Try.func92, Try.ntmps92
    go_wp2
    go_ret
    exact ⟨by rw [hv.out]; rfl, rfl⟩

set_option maxRecDepth 100000 in
set_option maxHeartbeats 4000000 in
theorem crash_any {W : World} {d m1 m2 : Nat} {v : Value} {D : Dk} (h : DkAt W d m1 m2 v D) (hlen : D.loose.length ≤ 100000) (kv : Value) (n : Nat) (ks : Nat → Bool) (hk : ∀ X, DFr W X d m1 m2 v v → KeepAt X kv n ks) :
    Calls Try.prog 55 #[.pointer (some ⟨d, 0, none⟩), kv] W fun r w' => r = .returned (.tuple #[]) ∧ DkAt w' d m1 m2 (.slice none 0 0) { D.settled (kept n ks) with down := true } ∧ DFr W w' d m1 m2 v (.slice none 0 0) := by
  have hB : Below W.heap.size W (W.alloc (.cells #[kv] 75)) := (Below.refl _ _).alloc (Nat.le_refl _) _
  have H := Lib.hid (h.below hB)
  have C1 := Lib.hid (fun X m (hX : DFr W X d m1 m2 v v) (hc : X.cell? ⟨W.heap.size, 0, none⟩ = some kv) => crash1_any (hk X hX) W.heap.size m hc)
  have S := Lib.hid (settle92 H.out hlen W.heap.size (kept n ks) (fun X m hX => C1.out X m ((DFr.of_below hB d m1 m2 v).trans hX) (by
    have hlt := h.lt
    have h1 := h.o1
    have h2 := h.o2
    have e : X.heap[W.heap.size]? = (W.alloc (.cells #[kv] 75)).heap[W.heap.size]? := hX.block _ (by simp) (by omega) (by omega) (by omega) (fun e => by
      have := (ownsRow_ge h.row e).2
      omega)
    rw [World.cell?_of_block (a := ⟨W.heap.size, 0, none⟩) e, World.cell?_alloc_new]
    rfl)))
  have F := Lib.hid (DFr.of_below hB d m1 m2 v)
  obtain ⟨a, cap, rfl, _⟩ := hk W (DFr.refl _ _ _ _ _)
  clear h hk hB H C1
  go_enter Try.func55, Try.ntmps55
  go_wp2_with fail
  refine S.out.mono ?_
  rintro r w1 ⟨rfl, hd, hf⟩
  have c3 := hd.c3
  have f3 := hd.fz 3
  have S2 := Lib.hid (hd.setDown true)
  have F2 := Lib.hid (F.out.trans hf)
  clear hd hf
  go_wp2_with fail
  exact ⟨rfl, .tuple #[], by simp [results, Try.results55], rfl, S2.out.1, F2.out.trans S2.out.2⟩

set_option maxRecDepth 100000 in
set_option maxHeartbeats 4000000 in
theorem sync_yes {W : World} {d m1 m2 : Nat} {v : Value} {D : Dk} (h : DkAt W d m1 m2 v D) (hm : D.may 0 = 0) (hf : D.fuse ≠ 0) (hf2 : -1 ≤ D.fuse ∧ D.fuse ≤ 9223372036854775807) (hlen : D.loose.length ≤ 100000) :
    Calls Try.prog 64 #[.pointer (some ⟨d, 0, none⟩)] W fun r w' => r = .returned (.int .i64 0) ∧ DkAt w' d m1 m2 (.slice none 0 0) (D.burnt.settled fun _ => true) ∧ DFr W w' d m1 m2 v (.slice none 0 0) := by
  have M := Lib.hid (may_any h 0)
  have B := Lib.hid (burn_any h hf2)
  have S := Lib.hid (fun X (hX : DkAt X d m1 m2 v D.burn) => settle94 hX (by unfold Dk.burn Dk.burnt; split <;> exact hlen) (fun _ => true) (fun X n _ => sync1_any n X))
  rw [hm] at M
  rw [if_neg hf] at B
  have hb := Lib.hid (show D.burn = D.burnt by unfold Dk.burn; rw [if_neg hf])
  rw [hb.out] at S B
  clear h
  go_enter Try.func64, Try.ntmps64
  go_wp2_with fail
  refine M.out.mono ?_
  rintro r w1 ⟨rfl, rfl⟩
  go_wp2_with fail
  refine B.out.mono ?_
  rintro r w1 ⟨rfl, hd, hfr⟩
  have HF := Lib.hid hfr
  have S1 := Lib.hid (S.out _ hd)
  clear hd hfr S
  go_wp2_with fail
  refine S1.out.mono ?_
  rintro r w2 ⟨rfl, hd, hfr⟩
  have HD := Lib.hid hd
  have HF2 := Lib.hid (HF.out.trans hfr)
  clear hd hfr S1
  go_wp2_with fail
  go_ret
  exact ⟨rfl, HD.out, HF2.out⟩

set_option maxRecDepth 100000 in
set_option maxHeartbeats 4000000 in
theorem sync_no {W : World} {d m1 m2 : Nat} {v : Value} {D : Dk} (h : DkAt W d m1 m2 v D) (hm : D.may 0 ≠ 0) :
    Calls Try.prog 64 #[.pointer (some ⟨d, 0, none⟩)] W fun r w' => r = .returned (.int .i64 (D.may 0 : Nat)) ∧ DkAt w' d m1 m2 v D ∧ DFr W w' d m1 m2 v v := by
  have M := Lib.hid (may_any h 0)
  have H := Lib.hid h
  clear h
  have hne : ((D.may 0 : Nat) : Int) ≠ 0 := by omega
  generalize D.may 0 = m at *
  go_enter Try.func64, Try.ntmps64
  go_wp2_with fail
  refine M.out.mono ?_
  rintro r w1 ⟨rfl, rfl⟩
  go_wp2_with fail
  go_ret
  exact ⟨rfl, H.out, DFr.refl _ _ _ _ _⟩

set_option maxRecDepth 100000 in
set_option maxHeartbeats 4000000 in
theorem sync_fused {W : World} {d m1 m2 : Nat} {v : Value} {D : Dk} (h : DkAt W d m1 m2 v D) (hm : D.may 0 = 0) (hf : D.fuse = 0) :
    Calls Try.prog 64 #[.pointer (some ⟨d, 0, none⟩)] W fun r w' => r = .returned (.int .i64 6) ∧ DkAt w' d m1 m2 v D ∧ DFr W w' d m1 m2 v v := by
  have M := Lib.hid (may_any h 0)
  have B := Lib.hid (burn_any h (by omega))
  rw [hm] at M
  rw [if_pos hf] at B
  have hb := Lib.hid (show D.burn = D by unfold Dk.burn; rw [if_pos hf])
  rw [hb.out] at B
  clear h
  go_enter Try.func64, Try.ntmps64
  go_wp2_with fail
  refine M.out.mono ?_
  rintro r w1 ⟨rfl, rfl⟩
  go_wp2_with fail
  refine B.out.mono ?_
  rintro r w1 ⟨rfl, hd, hfr⟩
  have HD := Lib.hid hd
  have HF2 := Lib.hid hfr
  clear hd hfr
  go_wp2_with fail
  go_ret
  exact ⟨rfl, HD.out, HF2.out⟩
end Go.Proofs.Ytmaaljfcnnlnpaa
