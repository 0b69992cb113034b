/-
  The walks of a disk's small methods.
-/
import Derived.Test.YtmaaljfcnnlnpaaDiskMem
namespace Go.Proofs.Ytmaaljfcnnlnpaa
open Go.RowKit

set_option maxRecDepth 100000 in
set_option maxHeartbeats 2000000 in
theorem may_any {W : World} {d m1 m2 : Nat} {v : Value} {D : Dk} (h : DkAt W d m1 m2 v D) (i : Int) :
    Calls Try.prog 89 #[.pointer (some ⟨d, 0, none⟩), .int .i64 i] W fun r w' => r = .returned (.int .i64 (D.may i : Nat)) ∧ W = w' := by
  have c0 := h.c0
  have c3 := h.c3
  have HM := Lib.hid (show D.may i = if D.down then 7 else if i < 0 ∨ D.size ≤ i then 1 else 0 from rfl)
  generalize D.may i = r at *
  clear h
  rcases Bool.eq_false_or_eq_true D.down with hd | hd
  · rw [hd] at c3
    go_enter Try.func89, Try.ntmps89
    go_wp2
    go_ret
    exact ⟨ret_int (by rw [HM.out, hd]; rfl), rfl⟩
  · rw [hd] at c3
    by_cases h0 : i < 0
    · go_enter Try.func89, Try.ntmps89
      go_wp2
      go_ret
      exact ⟨ret_int (by rw [HM.out, hd]; simp [h0]), rfl⟩
    · by_cases h1 : D.size ≤ i
      · go_enter Try.func89, Try.ntmps89
        go_wp2
        go_ret
        exact ⟨ret_int (by rw [HM.out, hd]; simp [h1]), rfl⟩
      · go_enter Try.func89, Try.ntmps89
        go_wp2
        go_ret
        exact ⟨ret_int (by rw [HM.out, hd, if_neg (by decide), if_neg (by omega)]; rfl), rfl⟩

/-- What burn leaves. -/
def Dk.burn (D : Dk) : Dk := if D.fuse = 0 then D else D.burnt

set_option maxRecDepth 100000 in
set_option maxHeartbeats 2000000 in
theorem burn_any {W : World} {d m1 m2 : Nat} {v : Value} {D : Dk} (h : DkAt W d m1 m2 v D) (hf : -1 ≤ D.fuse ∧ D.fuse ≤ 9223372036854775807) :
    Calls Try.prog 90 #[.pointer (some ⟨d, 0, none⟩)] W fun r w' => r = .returned (.int .i64 (if D.fuse = 0 then 6 else 0)) ∧ DkAt w' d m1 m2 v D.burn ∧ DFr W w' d m1 m2 v v := by
  have c4 := h.c4
  have f4 := h.fz 4
  have H := Lib.hid h
  clear h
  by_cases h0 : D.fuse = 0
  · rw [h0] at c4
    go_enter Try.func90, Try.ntmps90
    go_wp2
    go_ret
    exact ⟨rfl, by unfold Dk.burn; rw [if_pos h0]; exact H.out, DFr.refl _ _ _ _ _⟩
  · have hb := Lib.hid (show D.burn = { D with fuse := max (D.fuse - 1) (-1) } by unfold Dk.burn Dk.burnt; rw [if_neg h0])
    have hne : (D.fuse == 0) = false := by simpa using h0
    by_cases h1 : D.fuse = -1
    · have S := Lib.hid (H.out.setFuse (-1))
      have hm := Lib.hid (show max (D.fuse - 1) (-1) = -1 by omega)
      rw [h1] at c4
      go_enter Try.func90, Try.ntmps90
      go_wp2
      go_ret
      exact ⟨rfl, by rw [hb.out, hm.out]; exact S.out.1, S.out.2⟩
    · have S := Lib.hid (H.out.setFuse (D.fuse - 1))
      have hm := Lib.hid (show max (D.fuse - 1) (-1) = D.fuse - 1 by omega)
      have hw : IntKind.i64.wrap (D.fuse - 1) = D.fuse - 1 := by rw [IntKind.wrap_i64]; omega
      have hge : -1 ≤ D.fuse - 1 := by omega
      go_enter Try.func90, Try.ntmps90
      go_wp2
      go_ret
      exact ⟨rfl, by rw [hb.out, hm.out]; exact S.out.1, S.out.2⟩

set_option maxRecDepth 100000 in
set_option maxHeartbeats 2000000 in
theorem size_any {W : World} {d m1 m2 : Nat} {v : Value} {D : Dk} (h : DkAt W d m1 m2 v D) :
    Calls Try.prog 65 #[.pointer (some ⟨d, 0, none⟩)] W fun r w' => r = .returned (.int .i64 D.size) ∧ W = w' := by
  have c0 := h.c0
  clear h
  go_enter Try.func65, Try.ntmps65
  go_wp2
  go_ret
  exact ⟨rfl, rfl⟩

set_option maxRecDepth 100000 in
set_option maxHeartbeats 2000000 in
theorem loose_any {W : World} {d m1 m2 : Nat} {v : Value} {D : Dk} (h : DkAt W d m1 m2 v D) :
    Calls Try.prog 58 #[.pointer (some ⟨d, 0, none⟩)] W fun r w' => r = .returned (.int .i64 (D.loose.length : Nat)) ∧ W = w' := by
  have c2 := h.c2
  rcases h.row.2 with ⟨rfl, hn⟩ | ⟨g, cap, cur, rfl, _⟩
  · have HN := Lib.hid hn
    clear h hn
    go_enter Try.func58, Try.ntmps58
    go_wp2
    go_ret
    exact ⟨ret_int (by rw [HN.out]; rfl), rfl⟩
  · clear h
    go_enter Try.func58, Try.ntmps58
    go_wp2
    go_ret
    exact ⟨rfl, rfl⟩

set_option maxRecDepth 100000 in
set_option maxHeartbeats 2000000 in
theorem reads_any {W : World} {d m1 m2 : Nat} {v : Value} {D : Dk} (h : DkAt W d m1 m2 v D) (i : Int) :
    Calls Try.prog 71 #[.pointer (some ⟨d, 0, none⟩), .int .i64 i] W fun r w' => r = .returned (.int .i64 (D.reads i)) ∧ W = w' := by
  have c5 := h.c5
  have hr := h.reads.look i
  clear h
  go_enter Try.func71, Try.ntmps71
  go_wp2
  go_ret
  exact ⟨rfl, rfl⟩

set_option maxRecDepth 100000 in
set_option maxHeartbeats 2000000 in
theorem up_any {W : World} {d m1 m2 : Nat} {v : Value} {D : Dk} (h : DkAt W d m1 m2 v D) :
    Calls Try.prog 56 #[.pointer (some ⟨d, 0, none⟩)] W fun r w' => r = .returned (.tuple #[]) ∧ DkAt w' d m1 m2 v { D with down := false } ∧ DFr W w' d m1 m2 v v := by
  have c3 := h.c3
  have f3 := h.fz 3
  have S := Lib.hid (h.setDown false)
  clear h
  go_enter Try.func56, Try.ntmps56
  go_wp2
  exact ⟨rfl, .tuple #[], by simp [results, Try.results56], rfl, S.out⟩

set_option maxRecDepth 100000 in
set_option maxHeartbeats 2000000 in
theorem fuse_any {W : World} {d m1 m2 : Nat} {v : Value} {D : Dk} (h : DkAt W d m1 m2 v D) (n : Int) :
    Calls Try.prog 69 #[.pointer (some ⟨d, 0, none⟩), .int .i64 n] W fun r w' => r = .returned (.tuple #[]) ∧ DkAt w' d m1 m2 v { D with fuse := max n (-1) } ∧ DFr W w' d m1 m2 v v := by
  have c4 := h.c4
  have f4 := h.fz 4
  have S := Lib.hid (h.setFuse (max n (-1)))
  clear h
  by_cases hn : -1 ≤ n
  · have hm := Lib.hid (show max n (-1) = n by omega)
    rw [hm.out] at S ⊢
    go_enter Try.func69, Try.ntmps69
    go_wp2
    exact ⟨rfl, .tuple #[], by simp [results, Try.results69], rfl, S.out⟩
  · have hm := Lib.hid (show max n (-1) = -1 by omega)
    rw [hm.out] at S ⊢
    go_enter Try.func69, Try.ntmps69
    go_wp2
    exact ⟨rfl, .tuple #[], by simp [results, Try.results69], rfl, S.out⟩
end Go.Proofs.Ytmaaljfcnnlnpaa

namespace Go.Proofs.Ytmaaljfcnnlnpaa
open Go.RowKit

def Dk.new (n : Int) : Dk := ⟨n, fun _ => zero64, [], false, -1, fun _ => 0⟩

theorem DkAt.start (w : World) (n : Int) (t : TypeId) :
    DkAt (((w.alloc (.map #[] 0)).alloc (.map #[] 0)).alloc (.cells #[.int .i64 n, .map (some w.heap.size), .slice none 0 0, .bool false, .int .i64 (-1), .map (some (w.heap.size + 1))] t)) (w.heap.size + 1 + 1) w.heap.size (w.heap.size + 1) (.slice none 0 0) (Dk.new n) := by
  have e1 : (w.alloc (.map #[] 0)).heap.size = w.heap.size + 1 := by simp
  have e2 : ((w.alloc (.map #[] 0)).alloc (.map #[] 0)).heap.size = w.heap.size + 1 + 1 := by simp
  have a1 := MapAt.made w
  have a2 := MapAt.made (w.alloc (.map #[] 0))
  rw [e1] at a2
  have b : ∀ (W : World) o k, k < W.heap.size → (W.alloc o).heap[k]? = W.heap[k]? := fun W o k h => Below.heap_alloc W o k h
  have a1' : MapAt (((w.alloc (.map #[] 0)).alloc (.map #[] 0)).alloc (.cells #[.int .i64 n, .map (some w.heap.size), .slice none 0 0, .bool false, .int .i64 (-1), .map (some (w.heap.size + 1))] t)) w.heap.size (fun _ => none) :=
    (a1.of_block (b _ _ _ (by rw [e1]; omega))).of_block (b _ _ _ (by rw [e2]; omega))
  have a2' : MapAt (((w.alloc (.map #[] 0)).alloc (.map #[] 0)).alloc (.cells #[.int .i64 n, .map (some w.heap.size), .slice none 0 0, .bool false, .int .i64 (-1), .map (some (w.heap.size + 1))] t)) (w.heap.size + 1) (fun _ => none) :=
    a2.of_block (b _ _ _ (by rw [e2]; omega))
  have c : ∀ i, (((w.alloc (.map #[] 0)).alloc (.map #[] 0)).alloc (.cells #[.int .i64 n, .map (some w.heap.size), .slice none 0 0, .bool false, .int .i64 (-1), .map (some (w.heap.size + 1))] t)).cell? ⟨w.heap.size + 1 + 1, i, none⟩ =
      #[Value.int .i64 n, .map (some w.heap.size), .slice none 0 0, .bool false, .int .i64 (-1), .map (some (w.heap.size + 1))][i]? := fun i => by
    rw [← e2, World.cell?_alloc_new]
  have f : ∀ i, (((w.alloc (.map #[] 0)).alloc (.map #[] 0)).alloc (.cells #[.int .i64 n, .map (some w.heap.size), .slice none 0 0, .bool false, .int .i64 (-1), .map (some (w.heap.size + 1))] t)).frozen? ⟨w.heap.size + 1 + 1, i, none⟩ = false := fun i => by
    rw [← e2]; exact World.frozen?_alloc_new _ _ _ _
  exact ⟨(c 0).trans rfl, (c 1).trans rfl, (c 2).trans rfl, (c 3).trans rfl, (c 4).trans rfl, (c 5).trans rfl, f, ⟨_, a1', fun _ => rfl⟩, ⟨_, a2', fun _ => rfl⟩, ⟨rfl, .inl ⟨rfl, rfl⟩⟩, by omega, by omega, by simp, ⟨fun _ => rfl, fun x hx => by cases hx⟩⟩

set_option maxRecDepth 100000 in
set_option maxHeartbeats 2000000 in
theorem new_any (n : Int) (h1 : 1 ≤ n) (h2 : n ≤ 1024) (w : World) :
    Calls Try.prog 53 #[.int .i64 n] w fun r w' => ∃ d m1 m2, r = .returned (.tuple #[.pointer (some ⟨d, 0, none⟩), .int .i64 0]) ∧ DkAt w' d m1 m2 (.slice none 0 0) (Dk.new n) ∧ Below w.heap.size w w' ∧ w.heap.size ≤ m1 := by
  have S := Lib.hid (fun t => DkAt.start w n t)
  have hmm := @run_makeMap Try.prog
  have hb : ∀ (W : World) x, w.heap.size ≤ W.heap.size → Below w.heap.size W (W.alloc x) := fun W x h => (Below.refl _ _).alloc h x
  have HB := Lib.hid hb
  clear hb
  go_enter Try.func53, Try.ntmps53
  go_wp2
  refine bodyPost_ret (v := .tuple #[.pointer (some ⟨w.heap.size + 1 + 1, 0, none⟩), .int .i64 0]) (by simp [results, Try.results53, go_sem]) rfl ⟨_, _, _, rfl, S.out _, ?_, Nat.le_refl _⟩
  exact ((HB.out _ _ (Nat.le_refl _)).trans (HB.out _ _ (by simp))).trans (HB.out _ _ (by simp; omega))

set_option maxRecDepth 100000 in
set_option maxHeartbeats 2000000 in
theorem new_no (n : Int) (h : n < 1 ∨ 1024 < n) (w : World) : Calls Try.prog 53 #[.int .i64 n] w fun r w' => r = .returned (.tuple #[.pointer none, .int .i64 1]) ∧ w = w' := by
  by_cases h1 : n < 1
  · go_enter Try.func53, Try.ntmps53
    go_wp2
    exact bodyPost_ret (v := .tuple #[.pointer none, .int .i64 1]) (by simp [results, Try.results53, go_sem]) rfl ⟨rfl, rfl⟩
  · have h2 : 1024 < n := by omega
    go_enter Try.func53, Try.ntmps53
    go_wp2
    exact bodyPost_ret (v := .tuple #[.pointer none, .int .i64 1]) (by simp [results, Try.results53, go_sem]) rfl ⟨rfl, rfl⟩
end Go.Proofs.Ytmaaljfcnnlnpaa
